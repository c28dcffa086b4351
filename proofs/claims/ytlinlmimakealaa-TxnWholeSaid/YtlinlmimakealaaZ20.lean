/- plog.New, and where the document has a log. commonslaw08.lives. A transaction and the document's, side by side. commonslaw09.does: what it leaves. No statement of the seat is proved here. -/
import Derived.Test.YtlinlmimakealaaZ13
import Derived.Test.YtlinlmimakealaaZ08
import Derived.Test.YtlinlmimakealaaZ14
import Derived.Test.YtlinlmimakealaaZ06
import Derived.Test.YtlinlmimakealaaZ12
import Derived.Test.YtlinlmimakealaaZ19
import Derived.Test.YtlinlmimakealaaZ17
import Derived.Test.YtlinlmimakealaaZ16
import Derived.Deep.DeepCutAuto
import Derived.Deep.RegionHeld3
namespace Go.Proofs.Ytlinlmimakealaa
open Go.RowKit

def mayLG (n a s : Int) : Bool := decide (0 ≤ a ∧ a % 64 = 0 ∧ 128 ≤ s ∧ s ≤ 65536 ∧ s % 64 = 0 ∧ a ≤ n ∧ s ≤ n - a)
theorem mayLG_iff {n a s : Int} : mayLG n a s = true ↔ 0 ≤ a ∧ a % 64 = 0 ∧ 128 ≤ s ∧ s ≤ 65536 ∧ s % 64 = 0 ∧ a ≤ n ∧ s ≤ n - a := by simp [mayLG]
theorem tm64 {a : Int} (h : 0 ≤ a) : Int.tmod a 64 = a % 64 := Int.tmod_eq_emod_of_nonneg h
theorem ne_f {a : Int} (h : a = 0) : (a != 0) = false := by rw [h]; rfl
theorem ne_t {a : Int} (h : a ≠ 0) : (a != 0) = true := by rw [bne_iff_ne]; exact h
theorem eq_f {a : Int} (h : a ≠ 0) : (a == 0) = false := by rw [beq_eq_false_iff_ne]; exact h
theorem eq_t {a : Int} (h : a = 0) : (a == 0) = true := by rw [h]; rfl

theorem pl_new_nil (a s : Int) (w : World) : Calls Try.prog 29 #[.pointer none, .int .i64 a, .int .i64 s] w fun e w' => e = .returned (.pointer none) ∧ w = w' := by
  go_enter Try.func29, Try.ntmps29
  go_wp2_with fail
  go_ret
  exact ⟨rfl, rfl⟩

set_option maxHeartbeats 2000000 in
theorem pl_new {w : World} {x : MB} {N : Nat} {S T : List UInt8} {A : List Bool} (h : PM w x N S T A) (a s : Int) :
    Calls Try.prog 29 #[.pointer (some ⟨x.p, 0, none⟩), .int .i64 a, .int .i64 s] w fun e w' => (mayLG ((N : Int) * 8) a s = false ∧ e = .returned (.pointer none) ∧ w = w') ∨ (mayLG ((N : Int) * 8) a s = true ∧ ∃ l, e = .returned (.pointer (some ⟨l, 0, none⟩)) ∧ w.heap.size ≤ l ∧ Blk w' l [.pointer (some ⟨x.p, 0, none⟩), .int .i64 a, .int .i64 s] ∧ Grow w w') := by
  obtain ⟨hN1, hN2, hN3⟩ := h.bound
  have H := Lib.hid h
  clear h
  by_cases q0 : a < 0
  · have HM := Lib.hid (show mayLG ((N : Int) * 8) a s = false by rw [Bool.eq_false_iff]; intro m; have := mayLG_iff.1 m; omega)
    have y0 : decide (a < 0) = true := decide_eq_true q0
    clear hN1 hN2 hN3 q0
    go_enter Try.func29, Try.ntmps29
    go_wp2_with fail
    go_ret
    exact .inl ⟨HM.out, rfl, rfl⟩
  have z00 : decide (a < 0) = false := decide_eq_false q0
  by_cases q1 : s < 128
  · have HM := Lib.hid (show mayLG ((N : Int) * 8) a s = false by rw [Bool.eq_false_iff]; intro m; have := mayLG_iff.1 m; omega)
    have y0 : decide (s < 128) = true := decide_eq_true q1
    clear hN1 hN2 hN3 q0 q1
    go_enter Try.func29, Try.ntmps29
    go_wp2_with fail
    go_ret
    exact .inl ⟨HM.out, rfl, rfl⟩
  have z10 : decide (s < 128) = false := decide_eq_false q1
  by_cases q2 : 65536 < s
  · have HM := Lib.hid (show mayLG ((N : Int) * 8) a s = false by rw [Bool.eq_false_iff]; intro m; have := mayLG_iff.1 m; omega)
    have y0 : decide (65536 < s) = true := decide_eq_true q2
    clear hN1 hN2 hN3 q0 q1 q2
    go_enter Try.func29, Try.ntmps29
    go_wp2_with fail
    go_ret
    exact .inl ⟨HM.out, rfl, rfl⟩
  have z20 : decide (65536 < s) = false := decide_eq_false q2
  by_cases q3 : a % 64 ≠ 0
  · have HM := Lib.hid (show mayLG ((N : Int) * 8) a s = false by rw [Bool.eq_false_iff]; intro m; have := mayLG_iff.1 m; omega)
    have y0 : (Int.tmod a 64 != 0) = true := by rw [tm64 (by omega)]; exact ne_t q3
    have y1 : (a % 64 != 0) = true := ne_t q3
    clear hN1 hN2 hN3 q0 q1 q2 q3
    go_enter Try.func29, Try.ntmps29
    go_wp2_with fail
    go_ret
    exact .inl ⟨HM.out, rfl, rfl⟩
  have z30 : (Int.tmod a 64 != 0) = false := by rw [tm64 (by omega)]; exact ne_f (Decidable.byContradiction q3)
  have z31 : (a % 64 != 0) = false := ne_f (Decidable.byContradiction q3)
  by_cases q4 : s % 64 ≠ 0
  · have HM := Lib.hid (show mayLG ((N : Int) * 8) a s = false by rw [Bool.eq_false_iff]; intro m; have := mayLG_iff.1 m; omega)
    have y0 : (Int.tmod s 64 != 0) = true := by rw [tm64 (by omega)]; exact ne_t q4
    have y1 : (s % 64 != 0) = true := ne_t q4
    clear hN1 hN2 hN3 q0 q1 q2 q3 q4
    go_enter Try.func29, Try.ntmps29
    go_wp2_with fail
    go_ret
    exact .inl ⟨HM.out, rfl, rfl⟩
  have z40 : (Int.tmod s 64 != 0) = false := by rw [tm64 (by omega)]; exact ne_f (Decidable.byContradiction q4)
  have z41 : (s % 64 != 0) = false := ne_f (Decidable.byContradiction q4)
  have g1 : 0 ≤ a := by omega
  have g2 : 128 ≤ s := by omega
  have g3 : s ≤ 65536 := by omega
  by_cases q5 : (N : Int) * 8 - s < a
  · have HM := Lib.hid (show mayLG ((N : Int) * 8) a s = false by rw [Bool.eq_false_iff]; intro m; have := mayLG_iff.1 m; omega)
    have y0 : decide ((N : Int) * 8 - s < a) = true := decide_eq_true q5
    clear hN1 q0 q1 q2 q3 q4 q5
    go_enter Try.func29, Try.ntmps29
    go_wp2_with fail
    refine (pm_size H.out).mono ?_
    rintro e w' ⟨rfl, rfl⟩
    go_wp2_with fail
    go_ret
    exact .inl ⟨HM.out, rfl, rfl⟩
  · have HM := Lib.hid (show mayLG ((N : Int) * 8) a s = true from mayLG_iff.2 ⟨by omega, by omega, by omega, by omega, by omega, by omega, by omega⟩)
    have y0 : decide ((N : Int) * 8 - s < a) = false := decide_eq_false q5
    clear hN1 q0 q1 q2 q3 q4 q5
    go_enter Try.func29, Try.ntmps29
    go_wp2_with fail
    refine (pm_size H.out).mono ?_
    rintro e w' ⟨rfl, rfl⟩
    go_wp2_with fail
    go_ret
    exact .inr ⟨HM.out, w.heap.size, rfl, Nat.le_refl _, Blk.new w _ _ _ (0, 0) rfl, (Grow.refl w).alloc _⟩

end Go.Proofs.Ytlinlmimakealaa

namespace Go.Proofs.Ytlinlmimakealaa
open Go.RowKit

theorem RP.lit (w : World) (t : TypeId) (p : PT) : RP (w.alloc (.cells #[.int .i64 p.pos, .string p.dat] t)) (some ⟨w.heap.size, 0, none⟩) 1 [p] :=
  ⟨rfl, by omega, by have := Rd.litP w t (pcs [p]) 2 1 rfl; rw [World.size_alloc]; exact this⟩

/-- The memory as it is made. -/
def fresh : MS := ⟨List.replicate (8 * 128) 0, List.replicate (8 * 128) 0, List.replicate 128 false⟩
theorem fresh_ok : fresh.ok := ⟨List.length_replicate, List.length_replicate, List.length_replicate⟩
theorem fresh_still : fresh.still := rfl
theorem fresh_log : lgE fresh.S = 0 ∧ lgL fresh.S = [] ∧ lgU fresh.S = 0 := by
  have e : fresh.S = List.replicate 512 0 ++ (leB (0 : Int).toNat 8 ++ List.replicate 504 0) := by
    rw [show leB (0 : Int).toNat 8 = List.replicate 8 0 from rfl, List.replicate_append_replicate, List.replicate_append_replicate]; rfl
  have g := (get_mid (bs := fresh.S) (a := 512) (wd := 8) e List.length_replicate (by decide) (by decide)).1
  have g1 : getN fresh.S 512 8 = 0 := g
  have h : lgE fresh.S = 0 := by rw [lgE, g1]; rfl
  have hB : lgB fresh.S = [] := by rw [lgB, h]; rfl
  exact ⟨h, by rw [lgL, hB, rc_nil.1], by rw [lgU, hB, rc_nil.2]⟩
def pX : PT := ⟨3, ⟨#[120]⟩⟩
def pY : PT := ⟨258, ⟨#[5]⟩⟩
theorem encP_pX : (encP [pX]).length = 16 := by rw [encP_length]; rfl
theorem encP_pY : (encP [pY]).length = 16 ∧ (encP [pY]).take 9 = [1, 0, 2, 1, 0, 0, 1, 0, 5] ∧ (encP [pY]).drop 13 = [0, 0, 0] := by
  have hb : (bodyP [pY]).length = 9 := rfl
  have hs : (sumB (bodyP [pY])).length = 13 := by rw [sumB_length, hb]
  refine ⟨by rw [encP_length]; rfl, ?_, ?_⟩
  · rw [encP, sumB, List.append_assoc, List.take_left' hb]; rfl
  · rw [encP, List.drop_left' hs, hs]; rfl
theorem getD_one {S : List UInt8} {i : Nat} (h : i < S.length) : (S.drop i).take 1 = [S.getD i 0] := by
  rw [List.drop_eq_getElem_cons h, List.getD_eq_getElem?_getD, List.getElem?_eq_getElem h]; rfl
theorem live8 : apE fresh.S [pX] = 0 ∧ (lgL (fresh.append [pX]).S).length = 1 ∧ ((fresh.append [pX]).redo.T.drop 3).take 1 = [120] ∧ lgE (fresh.append [pX]).redo.S = 0 := by
  have h0 : apE fresh.S [pX] = 0 := apE_iff.2 ⟨by decide, by rw [fresh_log.2.2, encP_pX]; omega⟩
  obtain ⟨h1, h2, h3, -⟩ := append_is fresh_ok (MS.still_cov fresh_still) h0
  rw [fresh_log.2.1, List.nil_append] at h3
  obtain ⟨r1, r2, r3⟩ := redo_is h1 (MS.still_cov h2)
  refine ⟨h0, by rw [h3]; rfl, ?_, ?_⟩
  · rw [← show (fresh.append [pX]).redo.S = (fresh.append [pX]).redo.T from r2, getD_one (by rw [r1.S]; omega), r3, h3]
    have e : [[pX]].flatten.foldl patS (fresh.append [pX]).S = putL (fresh.append [pX]).S 3 [120] := rfl
    rw [e, putL_get _ _ _ _ (by rw [putL_length, h1.S]; decide), if_neg (by omega), putL_get _ _ _ _ (by rw [h1.S]; decide), if_pos (by decide)]
    rfl
  · rw [r3, h3]
    have e : [[pX]].flatten.foldl patS (fresh.append [pX]).S = putL (fresh.append [pX]).S 3 [120] := rfl
    rw [e]
    exact lgE_wiped (by rw [putL_length]; exact h1.S)

end Go.Proofs.Ytlinlmimakealaa

namespace Go.Proofs.Ytlinlmimakealaa
open Go.RowKit

structure PY (w : World) (base pb l t dl d : Nat) (x y : MB) (s : MS) (L : List PT) (v v' : Value) : Prop where
  tx : TX w base t l x s L v
  rx : RX w base d dl y s L v'
  ap : ∀ k, TF t x v k → ¬ TF d y v' k
  xd : ¬ TF t x v dl
  yl : ¬ TF d y v' l
  blk : Blk w pb [.pointer (some ⟨x.p, 0, none⟩), .pointer (some ⟨l, 0, none⟩), .pointer (some ⟨t, 0, none⟩), .pointer (some ⟨y.p, 0, none⟩), .pointer (some ⟨d, 0, none⟩)]
  xp : ¬ TF t x v pb
  yp : ¬ TF d y v' pb
  xb : ∀ k, TF t x v k → base ≤ k
  yb : ∀ k, TF d y v' k → base ≤ k
/-- The blocks of both that may turn. -/
def PF (t d : Nat) (x y : MB) (v v' : Value) (k : Nat) : Prop := TF t x v k ∨ TF d y v' k
section
variable {w w' w1 w2 : World} {base pb l t dl d : Nat} {x x' y : MB} {s s' : MS} {L L' : List PT} {v v' v1 v2 : Value} {F : Nat → Prop}
theorem PY.keep (h : PY w base pb l t dl d x y s L v v') (g : Grow w w') : PY w' base pb l t dl d x y s L v v' := ⟨h.tx.keep g, h.rx.keep g, h.ap, h.xd, h.yl, h.blk.keep g, h.xp, h.yp, h.xb, h.yb⟩
theorem PY.turn (h : PY w base pb l t dl d x y s L v v') (k : Turn F w w') (hF : ∀ i, F i → ¬ PF t d x y v v' i ∧ i ≠ l ∧ i ≠ dl ∧ i ≠ pb) : PY w' base pb l t dl d x y s L v v' :=
  ⟨h.tx.turn k fun i q => ⟨fun z => (hF i q).1 (.inl z), (hF i q).2.1⟩, h.rx.turn k fun i q => ⟨fun z => (hF i q).1 (.inr z), (hF i q).2.2.1⟩, h.ap, h.xd, h.yl, h.blk.turn k (fun q => (hF pb q).2.2.2 rfl), h.xp, h.yp, h.xb, h.yb⟩
theorem PY.rx1 (h : PY w base pb l t dl d x y s L v v') (t1 : Turn (TF t x v) w w1) : RX w1 base d dl y s L v' := h.rx.turn t1 fun k q => ⟨h.ap k q, fun e => h.xd (e ▸ q)⟩
theorem PY.blk1 (h : PY w base pb l t dl d x y s L v v') (t1 : Turn (TF t x v) w w1) : Blk w1 pb [.pointer (some ⟨x.p, 0, none⟩), .pointer (some ⟨l, 0, none⟩), .pointer (some ⟨t, 0, none⟩), .pointer (some ⟨y.p, 0, none⟩), .pointer (some ⟨d, 0, none⟩)] := h.blk.turn t1 h.xp
theorem PY.ok (h : PY w base pb l t dl d x y s L v v') : s.ok := h.tx.ok
theorem PY.lt (h : PY w base pb l t dl d x y s L v v') : ∀ k, PF t d x y v v' k → k < w.heap.size := fun k q => q.elim (h.tx.tfl k) (h.rx.tfl k)
theorem PY.lb (h : PY w base pb l t dl d x y s L v v') : ∀ k, PF t d x y v v' k → base ≤ k := fun k q => q.elim (h.xb k) (h.yb k)
/-- A verb of the one, then of the other. -/
theorem PY.both (h : PY w base pb l t dl d x y s L v v') (hb : base ≤ w.heap.size) (hx : x'.p = x.p) (h1 : TX w1 base t l x' s' L' v1) (t1 : Turn (TF t x v) w w1) (n1 : ∀ k, TF t x' v1 k → TF t x v k ∨ w.heap.size ≤ k)
    (h2 : RX w2 base d dl y s' L' v2) (t2 : Turn (TF d y v') w1 w2) (n2 : ∀ k, TF d y v2 k → TF d y v' k ∨ w1.heap.size ≤ k) :
    PY w2 base pb l t dl d x' y s' L' v1 v2 ∧ Turn (PF t d x y v v') w w2 ∧ ∀ k, PF t d x' y v1 v2 k → PF t d x y v v' k ∨ w.heap.size ≤ k := by
  have z1 := t1.size
  have z2 := t2.size
  have hl := h.tx.lg.2.1.1
  have hd := h.rx.lg.2.1.1
  have hp := h.blk.1
  have hy := h.rx.tfl
  have hxl := h.tx.tfl
  have hx1 := h1.tfl
  refine ⟨⟨h1.turn t2 fun k q => ⟨fun z => ?_, fun e => h.yl (e ▸ q)⟩, h2, fun k q z => ?_, fun q => ?_, fun q => ?_, ?_, fun q => ?_, fun q => ?_, fun k q => ?_, fun k q => ?_⟩, (t1.mono fun k q => .inl q).and (t2.mono fun k q => .inr q), fun k q => ?_⟩
  · rcases n1 k z with z | z
    · exact h.ap k z q
    · have := hy k q; omega
  · rcases n1 k q with q2 | q2 <;> rcases n2 k z with z2 | z2
    · exact h.ap k q2 z2
    · have := hxl k q2; omega
    · have := hy k z2; omega
    · have := hx1 k q; omega
  · rcases n1 _ q with q | q
    · exact h.xd q
    · omega
  · rcases n2 _ q with q | q
    · exact h.yl q
    · omega
  · rw [hx]; exact (h.blk1 t1).turn t2 h.yp
  · rcases n1 _ q with q | q
    · exact h.xp q
    · omega
  · rcases n2 _ q with q | q
    · exact h.yp q
    · omega
  · rcases n1 _ q with q | q
    · exact h.xb k q
    · omega
  · rcases n2 _ q with q | q
    · exact h.yb k q
    · omega
  · rcases q with q | q
    · exact (n1 k q).imp (fun z => .inl z) id
    · rcases n2 k q with q | q
      · exact .inl (.inr q)
      · right; omega
theorem TX.crash (h : TX w base t l x s L v) (t1 : Turn x.F w w1) (h1 : LG w1 l x' s') (hx : x'.p = x.p) (n : ∀ k, x'.F k → x.F k ∨ w.heap.size ≤ k) : TX w1 base t l x' s' L v := by
  have ht := h.blk.1.1
  have hl := h.lg.2.1.1
  refine ⟨h1, ?_, h.row.turn t1 (fun g hg => (h.vx g hg).1), fun q => ?_, h.tl, fun g hg => ⟨fun q => ?_, (h.vx g hg).2⟩, h.held⟩
  · rw [hx]; exact h.blk.turn t1 h.xt
  · rcases n _ q with q | q
    · exact h.xt q
    · omega
  · rcases n _ q with q | q
    · exact (h.vx g hg).1 q
    · have := (World.ownsRow.lt h.row g hg).2; omega
theorem tx_crash (h : TX w base t l x s L v) {B : Option Addr} {m c : Nat} {pk : List Int} (hs : RI w B m pk) (hB : 0 < m → ∀ p, B = some p → ¬ x.F p.block) :
    Calls Try.prog 21 #[.pointer (some ⟨x.p, 0, none⟩), .slice B m c] w fun e w' => e = .returned (.tuple #[]) ∧ ∃ x', x'.p = x.p ∧ TX w' base t l x' (s.crash pk) L v ∧ Turn x.F w w' ∧ ∀ k, x'.F k → x.F k ∨ w.heap.size ≤ k := by
  refine (pm_crash h.lg.1 hs hB).mono ?_
  rintro e w' ⟨rfl, g', hg, h5, t5⟩
  have hF : ∀ k, (⟨x.p, g', x.gt, x.b⟩ : MB).F k → x.F k ∨ w.heap.size ≤ k := by
    rintro k (q | q | q | q)
    · exact .inl (.inl q)
    · have q' : k = g' := q
      right; omega
    · exact .inl (.inr (.inr (.inl q)))
    · exact .inl (.inr (.inr (.inr q)))
  refine ⟨rfl, ⟨x.p, g', x.gt, x.b⟩, rfl, h.crash t5 ⟨h5, h.lg.2.1.turn t5 h.lg.2.2, fun q => ?_⟩ rfl hF, t5, hF⟩
  rcases hF _ q with q | q
  · exact h.lg.2.2 q
  · have := h.lg.2.1.1; omega
theorem rx_crash (h : RX w base t l x s L v) {B : Option Addr} {m c : Nat} {pk : List Int} (hs : RI w B m pk) (hB : 0 < m → ∀ p, B = some p → ¬ x.F p.block) (hw : ∀ p ∈ pk, -9223372036854775808 ≤ p ∧ p ≤ 9223372036854775807) :
    Calls Try.prog 50 #[.pointer (some ⟨x.p, 0, none⟩), .slice B m c] w fun e w' => e = .returned (.tuple #[]) ∧ RX w' base t l x (s.crash pk) L v ∧ Turn x.F w w' := by
  refine (rm_crash h.lg.1 hs hB hw).mono ?_
  rintro e w' ⟨rfl, h5, t5⟩
  exact ⟨rfl, h.mem ⟨h5, h.lg.2.1.turn t5 h.lg.2.2, h.lg.2.2⟩ t5, t5⟩
theorem tx_mstore (h : TX w base t l x s L v) {B : Option Addr} {m c : Nat} {bs : List UInt8} (hs : Sl w B m bs) (hB : 0 < m → ∀ p, B = some p → ¬ x.F p.block) (a : Int) :
    Calls Try.prog 17 #[.pointer (some ⟨x.p, 0, none⟩), .int .i64 a, .slice B m c] w fun e w' => e = .returned (.int .i64 (errV (inW 1024 a m))) ∧ TX w' base t l x (s.store a bs) L v ∧ Turn x.F w w' := by
  refine (pm_storeU h.lg.1 hs hB a).mono ?_
  rintro e w' ⟨rfl, h5, t5⟩
  have hl := hs.1
  refine ⟨rfl, h.mem ⟨?_, h.lg.2.1.turn t5 h.lg.2.2, h.lg.2.2⟩ t5, t5⟩
  simp only [MS.store]
  rw [hl]
  exact h5
theorem rx_mstore (h : RX w base t l x s L v) {B : Option Addr} {m c : Nat} {bs : List UInt8} (hs : Sl w B m bs) (hB : 0 < m → ∀ p, B = some p → ¬ x.F p.block) (a : Int) :
    Calls Try.prog 51 #[.pointer (some ⟨x.p, 0, none⟩), .int .i64 a, .slice B m c] w fun e w' => e = .returned (.int .i64 (errV (inW 1024 a m))) ∧ RX w' base t l x (s.store a bs) L v ∧ Turn x.F w w' := by
  refine (rm_storeU h.lg.1 hs hB a).mono ?_
  rintro e w' ⟨rfl, h5, t5⟩
  have hl := hs.1
  refine ⟨rfl, h.mem ⟨?_, h.lg.2.1.turn t5 h.lg.2.2, h.lg.2.2⟩ t5, t5⟩
  simp only [MS.store]
  rw [hl]
  exact h5
end
theorem txn_new (w : World) (p l : Nat) :
    Calls Try.prog 11 #[.pointer (some ⟨p, 0, none⟩), .pointer (some ⟨l, 0, none⟩)] w fun e w' => e = .returned (.pointer (some ⟨w.heap.size, 0, none⟩)) ∧ w' = w.alloc (.cells #[.pointer (some ⟨p, 0, none⟩), .pointer (some ⟨l, 0, none⟩), .slice none 0 0] 66) := by
  go_enter Try.func11, Try.ntmps11
  go_wp2_with fail
  go_ret
  exact ⟨rfl, rfl⟩
theorem txn_none (w : World) : Calls Try.prog 11 #[.pointer none, .pointer none] w fun e w' => e = .returned (.pointer none) ∧ w = w' := by
  go_enter Try.func11, Try.ntmps11
  go_wp2_with fail
  go_ret
  exact ⟨rfl, rfl⟩

set_option maxHeartbeats 4000000 in
set_option maxRecDepth 4000 in
theorem begin9 (w : World) : Calls Try.prog 8 #[] w fun e w' => ∃ pb l t dl d x y, e = .returned (.pointer (some ⟨pb, 0, none⟩)) ∧ PY w' w.heap.size pb l t dl d x y fresh [] (.slice none 0 0) (.slice none 0 0) ∧ w.heap.size ≤ pb ∧ w.heap.size ≤ l ∧ w.heap.size ≤ dl ∧ Grow w w' := by
  go_enter Try.func8, Try.ntmps8
  go_wp2_with fail
  refine (pm_new_yes 128 (by decide) w).mono ?_
  rintro e w1 ⟨x, rfl, hP, hx, g1⟩
  go_wp2_with fail
  refine (pl_new hP 512 512).mono ?_
  rintro e w2 (⟨hm, -, -⟩ | ⟨-, l, rfl, hl, hb, g2⟩)
  case inl => exact absurd hm (by decide)
  have hxl : ∀ k, x.F k → k < w1.heap.size := hP.lt
  have H2 : LG w2 l x fresh := ⟨hP.keep g2, hb, fun q => by have := hP.lt l q; omega⟩
  have hl2 : l < w2.heap.size := H2.2.1.1
  have G2 := g1.trans g2
  have hz1 := g1.size
  have hz2 := g2.size
  clear hP hb g1 g2
  go_wp2_with fail
  refine (txn_new w2 x.p l).mono ?_
  rintro e w3 ⟨rfl, hw3⟩
  have g3 : Grow w2 w3 := by rw [hw3]; exact (Grow.refl _).alloc _
  have R3 := Row.new w2 66 [.pointer (some ⟨x.p, 0, none⟩), .pointer (some ⟨l, 0, none⟩), .slice none 0 0] _ rfl
  rw [← hw3] at R3
  obtain ⟨t, ht⟩ : ∃ z, z = w2.heap.size := ⟨_, rfl⟩
  have hz3 : w3.heap.size = t + 1 := by rw [hw3, ht]; simp
  rw [← ht] at R3 hl2 ⊢
  have T3 : TX w3 w.heap.size t l x fresh [] (.slice none 0 0) := ⟨H2.keep g3, R3, OP.nil _ _, fun q => by have := hxl t q; omega, by omega, fun g hg => by (cases hg), Held.nil⟩
  have G3 := G2.trans g3
  clear H2 hw3 R3 G2 g3
  go_wp2_with fail
  refine (rm_new_yes 128 (by decide) w3).mono ?_
  rintro e w4 ⟨y, rfl, hR, hy, g4⟩
  have hyl : ∀ k, y.F k → k < w4.heap.size := hR.lt
  have hz4 := g4.size
  have T4 := Lib.hid (T3.keep g4)
  have HR := Lib.hid hR
  have HG4 := Lib.hid (G3.trans g4)
  have HX := Lib.hid (And.intro hx (And.intro hxl (And.intro hy hyl)))
  clear T3 hR G3 g4 hx hxl hy hyl
  go_wp2_with fail
  go_ret
  obtain ⟨hx, hxl, hy, hyl⟩ := HX.out
  obtain ⟨wA, hwA⟩ : ∃ z, z = w4.alloc (.cells #[.pointer (some ⟨y.p, 0, none⟩), .int .i64 512, .int .i64 512] 62) := ⟨_, rfl⟩
  obtain ⟨wB, hwB⟩ : ∃ z, z = wA.alloc (.cells #[.pointer (some ⟨y.p, 0, none⟩), .pointer (some ⟨w4.heap.size, 0, none⟩), .slice none 0 0] 64) := ⟨_, rfl⟩
  obtain ⟨wC, hwC⟩ : ∃ z, z = wB.alloc (.cells #[.pointer (some ⟨x.p, 0, none⟩), .pointer (some ⟨l, 0, none⟩), .pointer (some ⟨t, 0, none⟩), .pointer (some ⟨y.p, 0, none⟩), .pointer (some ⟨w4.heap.size + 1, 0, none⟩)] 32) := ⟨_, rfl⟩
  have sA : wA.heap.size = w4.heap.size + 1 := by rw [hwA]; simp
  have sB : wB.heap.size = w4.heap.size + 2 := by rw [hwB]; simp [sA]
  have sC : wC.heap.size = w4.heap.size + 3 := by rw [hwC]; simp [sB]
  have gA : Grow w4 wA := by rw [hwA]; exact (Grow.refl _).alloc _
  have gB : Grow wA wB := by rw [hwB]; exact (Grow.refl _).alloc _
  have gC : Grow wB wC := by rw [hwC]; exact (Grow.refl _).alloc _
  have BA := Blk.new w4 62 [.pointer (some ⟨y.p, 0, none⟩), .int .i64 512, .int .i64 512] _ (0, 0) rfl
  rw [← hwA] at BA
  have BB := Row.new wA 64 [.pointer (some ⟨y.p, 0, none⟩), .pointer (some ⟨w4.heap.size, 0, none⟩), .slice none 0 0] _ rfl
  rw [← hwB, sA] at BB
  have BC := Blk.new wB 32 [.pointer (some ⟨x.p, 0, none⟩), .pointer (some ⟨l, 0, none⟩), .pointer (some ⟨t, 0, none⟩), .pointer (some ⟨y.p, 0, none⟩), .pointer (some ⟨w4.heap.size + 1, 0, none⟩)] _ (0, 0) rfl
  rw [← hwC, sB] at BC
  have LA : RL wA w4.heap.size y fresh := ⟨HR.out.keep gA, BA, fun q => by have := hyl _ q; omega⟩
  have RB : RX wC w.heap.size (w4.heap.size + 1) w4.heap.size y fresh [] (.slice none 0 0) := ⟨(LA.keep gB).keep gC, BB.keep gC, OP.nil _ _, fun q => by have := hyl _ q; omega, by omega, fun g hg => by (cases hg), Held.nil⟩
  have TC := ((T4.out.keep gA).keep gB).keep gC
  have tfx : ∀ k, TF t x (.slice none 0 0) k → k < w3.heap.size ∧ w.heap.size ≤ k := by
    rintro k (q | q | q)
    · have := hxl k q; have := hx k q; omega
    · omega
    · cases q
  have tfy : ∀ k, TF (w4.heap.size + 1) y (.slice none 0 0) k → w3.heap.size ≤ k ∧ k ≠ w4.heap.size ∧ k ≠ w4.heap.size + 2 := by
    rintro k (q | q | q)
    · have := hyl k q; have := hy k q; omega
    · omega
    · cases q
  subst ht
  refine ⟨w4.heap.size + 2, l, w2.heap.size, w4.heap.size, w4.heap.size + 1, x, y, by first | rfl | simp, ?_, by omega, by omega, by omega, ?_⟩
  · have X : PY wC w.heap.size (w4.heap.size + 2) l w2.heap.size w4.heap.size (w4.heap.size + 1) x y fresh [] (.slice none 0 0) (.slice none 0 0) :=
      ⟨TC, RB, fun k q q2 => by have := tfx k q; have := tfy k q2; omega, fun q => by have := tfx _ q; omega, fun q => by have := tfy _ q; omega, BC, fun q => by have := tfx _ q; omega, fun q => by have := tfy _ q; omega, fun k q => (tfx k q).2, fun k q => by have := tfy k q; omega⟩
    rw [hwC, hwB, hwA] at X
    exact X
  · have X : Grow w wC := (((HG4.out.trans gA).trans gB).trans gC)
    rw [hwC, hwB, hwA] at X
    exact X
end Go.Proofs.Ytlinlmimakealaa

namespace Go.Proofs.Ytlinlmimakealaa
open Go.RowKit

/-- A deed's parts, as they are read; P: the blocks that the deed may turn. -/
structure DA9 (w : World) (P : Nat → Prop) (n : Int) (B : Option Addr) (m c : Nat) (bs : List UInt8) (Q : Option Addr) (q dq : Nat) (pk : List Int) : Prop where
  nb : -9223372036854775808 ≤ n ∧ n ≤ 9223372036854775807
  bytes : RB w w.heap.size B bs
  len : bs.length = m
  cap : m ≤ c
  picks : RI w Q q pk
  pcap : q ≤ dq
  pw : ∀ p ∈ pk, -9223372036854775808 ≤ p ∧ p ≤ 9223372036854775807
  ab : 0 < m → ∀ p, B = some p → ¬ P p.block
  aq : 0 < q → ∀ p, Q = some p → ¬ P p.block
/-- The bytes and the picks, cut. -/
structure DC9 (w : World) (P : Nat → Prop) (B : Option Addr) (m : Nat) (bs : List UInt8) (Q : Option Addr) (q : Nat) (pk : List Int) : Prop where
  bytes : Sl w B m bs
  picks : RI w Q q pk
  pw : ∀ p ∈ pk, -9223372036854775808 ≤ p ∧ p ≤ 9223372036854775807
  ab : 0 < m → ∀ p, B = some p → ¬ P p.block
  aq : 0 < q → ∀ p, Q = some p → ¬ P p.block
theorem DA9.cut {w : World} {P : Nat → Prop} {n : Int} {m c q dq : Nat} {B Q : Option Addr} {bs : List UInt8} {pk : List Int} (h : DA9 w P n B m c bs Q q dq pk) : DC9 w P B (min m 260) (bs.take (min m 260)) Q (min q 200) (pk.take (min q 200)) := by
  obtain ⟨-, h3, h4, h5, h6, h7, h8, h9, h10⟩ := h
  refine ⟨Sl.ofTake h3 (by omega) (by omega), h6.take (by omega), fun p hp => h8 p (List.mem_of_mem_take hp), fun h0 => h9 (by omega), fun h0 => h10 (by omega)⟩
theorem DC9.keep {w w' : World} {P : Nat → Prop} {m q : Nat} {B Q : Option Addr} {bs : List UInt8} {pk : List Int} (h : DC9 w P B m bs Q q pk) (g : Grow w w') : DC9 w' P B m bs Q q pk := ⟨h.bytes.keep g, h.picks.keep g, h.pw, h.ab, h.aq⟩
/-- What a deed leaves. -/
def Done9 (w w' : World) (base pb l t dl d px : Nat) (y : MB) (s : MS) (L : List PT) (P : Nat → Prop) : Prop :=
  ∃ (x' : MB) (v1 v2 : Value), x'.p = px ∧ PY w' base pb l t dl d x' y s L v1 v2 ∧ Turn P w w' ∧ ∀ k, PF t d x' y v1 v2 k → P k ∨ w.heap.size ≤ k
theorem PY.done {W w w2 : World} {base pb l t dl d : Nat} {x x' y : MB} {s : MS} {L : List PT} {v v' v1 v2 : Value} (g : Grow W w) (hx : x'.p = x.p)
    (h : PY w2 base pb l t dl d x' y s L v1 v2 ∧ Turn (PF t d x y v v') w w2 ∧ ∀ k, PF t d x' y v1 v2 k → PF t d x y v v' k ∨ w.heap.size ≤ k) : Done9 W w2 base pb l t dl d x.p y s L (PF t d x y v v') :=
  ⟨x', v1, v2, hx, h.1, (Turn.grow g _).and h.2.1, fun k q => (h.2.2 k q).imp id fun q => Nat.le_trans g.size q⟩
theorem tf_store {w : World} {t : Nat} {x : MB} {v v1 : Value} (h : v1.ownBlock = v.ownBlock ∨ ∃ g, v1.ownBlock = some g ∧ w.heap.size ≤ g) : ∀ k, TF t x v1 k → TF t x v k ∨ w.heap.size ≤ k := by
  rintro k (q | q | q)
  · exact .inl (.inl q)
  · exact .inl (.inr (.inl q))
  · rcases h with e | ⟨g, e, hg⟩
    · exact .inl (.inr (.inr (e ▸ q)))
    · rw [e] at q; injection q with q; subst q; exact .inr hg
theorem tf_drop {t : Nat} {x : MB} {v v1 : Value} (h : v1.ownBlock = none ∨ v1 = v) : ∀ k, TF t x v1 k → TF t x v k := by
  rintro k (q | q | q)
  · exact .inl q
  · exact .inr (.inl q)
  · rcases h with e | e
    · rw [e] at q; cases q
    · exact .inr (.inr (e ▸ q))
theorem tf_mem {t : Nat} {x : MB} {v : Value} {k : Nat} (q : x.F k) : TF t x v k := .inl q
end Go.Proofs.Ytlinlmimakealaa
