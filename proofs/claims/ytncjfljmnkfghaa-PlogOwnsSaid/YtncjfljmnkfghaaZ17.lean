/- commonslaw08.lives. commonsref03.New. commonslaw08: begin, like. commonsref03: Crash. No statement of the seat is proved here. -/
import Derived.Test.YtncjfljmnkfghaaZ16
import Derived.Test.YtncjfljmnkfghaaZ15
import Derived.Test.YtncjfljmnkfghaaZ11
import Derived.Test.YtncjfljmnkfghaaZ07
import Derived.Test.YtncjfljmnkfghaaZ10
import Derived.Test.YtncjfljmnkfghaaZ13
import Derived.Test.YtncjfljmnkfghaaZ12
import Derived.Deep.CutBlock
namespace Go.Proofs.Ytncjfljmnkfghaa
open Go.RowKit

theorem RP.lit (w : World) (t : TypeId) (p : PT) : RP (w.alloc (.cells #[.int .i64 p.pos, .string p.dat] t)) (some ⟨w.heap.size, 0, none⟩) 1 [p] :=
  ⟨rfl, by omega, by have := Rd.litP w t (pcs [p]) 2 1 rfl; rw [World.size_alloc]; exact this⟩

/-- The memory as it is made. -/
def fresh : MS := ⟨List.replicate (8 * 128) 0, List.replicate (8 * 128) 0, List.replicate 128 false⟩
theorem fresh_ok : fresh.ok := ⟨List.length_replicate, List.length_replicate, List.length_replicate⟩
theorem fresh_still : fresh.still := rfl
theorem fresh_log : lgE fresh.S = 0 ∧ lgL fresh.S = [] ∧ lgU fresh.S = 0 := by
  have e : fresh.S = List.replicate 512 0 ++ (leB (0 : Int).toNat 8 ++ List.replicate 504 0) := by
    rw [show leB (0 : Int).toNat 8 = List.replicate 8 0 from rfl, List.replicate_append_replicate, List.replicate_append_replicate]; rfl
  have g := (get_mid (bs := fresh.S) (a := 512) (wd := 8) e List.length_replicate (by decide) (by decide)).1
  have g1 : getN fresh.S 512 8 = 0 := g
  have h : lgE fresh.S = 0 := by rw [lgE, g1]; rfl
  have hB : lgB fresh.S = [] := by rw [lgB, h]; rfl
  exact ⟨h, by rw [lgL, hB, rc_nil.1], by rw [lgU, hB, rc_nil.2]⟩
def pX : PT := ⟨3, ⟨#[120]⟩⟩
def pY : PT := ⟨258, ⟨#[5]⟩⟩
theorem encP_pX : (encP [pX]).length = 16 := by rw [encP_length]; rfl
theorem encP_pY : (encP [pY]).length = 16 ∧ (encP [pY]).take 9 = [1, 0, 2, 1, 0, 0, 1, 0, 5] ∧ (encP [pY]).drop 13 = [0, 0, 0] := by
  have hb : (bodyP [pY]).length = 9 := rfl
  have hs : (sumB (bodyP [pY])).length = 13 := by rw [sumB_length, hb]
  refine ⟨by rw [encP_length]; rfl, ?_, ?_⟩
  · rw [encP, sumB, List.append_assoc, List.take_left' hb]; rfl
  · rw [encP, List.drop_left' hs, hs]; rfl
theorem getD_one {S : List UInt8} {i : Nat} (h : i < S.length) : (S.drop i).take 1 = [S.getD i 0] := by
  rw [List.drop_eq_getElem_cons h, List.getD_eq_getElem?_getD, List.getElem?_eq_getElem h]; rfl
theorem live8 : apE fresh.S [pX] = 0 ∧ (lgL (fresh.append [pX]).S).length = 1 ∧ ((fresh.append [pX]).redo.T.drop 3).take 1 = [120] ∧ lgE (fresh.append [pX]).redo.S = 0 := by
  have h0 : apE fresh.S [pX] = 0 := apE_iff.2 ⟨by decide, by rw [fresh_log.2.2, encP_pX]; omega⟩
  obtain ⟨h1, h2, h3, -⟩ := append_is fresh_ok (MS.still_cov fresh_still) h0
  rw [fresh_log.2.1, List.nil_append] at h3
  obtain ⟨r1, r2, r3⟩ := redo_is h1 (MS.still_cov h2)
  refine ⟨h0, by rw [h3]; rfl, ?_, ?_⟩
  · rw [← show (fresh.append [pX]).redo.S = (fresh.append [pX]).redo.T from r2, getD_one (by rw [r1.S]; omega), r3, h3]
    have e : [[pX]].flatten.foldl patS (fresh.append [pX]).S = putL (fresh.append [pX]).S 3 [120] := rfl
    rw [e, putL_get _ _ _ _ (by rw [putL_length, h1.S]; decide), if_neg (by omega), putL_get _ _ _ _ (by rw [h1.S]; decide), if_pos (by decide)]
    rfl
  · rw [r3, h3]
    have e : [[pX]].flatten.foldl patS (fresh.append [pX]).S = putL (fresh.append [pX]).S 3 [120] := rfl
    rw [e]
    exact lgE_wiped (by rw [putL_length]; exact h1.S)

set_option maxHeartbeats 4000000 in
set_option maxRecDepth 4000 in
theorem lives8 (w : World) : Calls Try.prog 16 #[] w fun e w' => e = .returned (.bool true) ∧ Grow w w' := by
  have hY := encP_pY
  obtain ⟨bY, hbY⟩ : ∃ b, b = encP [pY] := ⟨_, rfl⟩
  rw [← hbY] at hY
  obtain ⟨hY1, hY2, hY3⟩ := hY
  have HL := Lib.hid live8
  obtain ⟨s1, hs1⟩ : ∃ s1, s1 = fresh.append [pX] := ⟨_, rfl⟩
  rw [← hs1] at HL
  have HS1 := Lib.hid hs1
  have HBY := Lib.hid hbY
  have HT9 := Lib.hid hY2
  have HD13 := Lib.hid hY3
  clear hbY hs1 hY2 hY3
  go_enter Try.func16, Try.ntmps16
  go_wp2_with fail
  refine (pl_encode (RP.lit w _ pY) (fun p hp => by simp at hp; subst hp; exact ⟨by decide, by decide⟩)).mono ?_
  rintro e w1 (⟨hm, A1, c1, rfl, o1, g1⟩ | ⟨hm, -, -⟩)
  case inr => exact absurd hm (by decide)
  rw [← HBY.out, hY1] at o1 ⊢
  have s1' := o1.sl
  have G1 : Grow w w1 := ((Grow.refl w).alloc _).trans g1
  have hc1 := o1.cap
  have st := s1'.take (k := 9) (by omega)
  have sd := s1'.drop (k := 13) (by omega) hc1
  rw [HT9.out] at st
  rw [HD13.out, if_neg (by omega)] at sd
  obtain ⟨gb, hA1, -, -⟩ := o1.row (by omega)
  subst hA1
  have ha : (some (⟨gb, 0, none⟩ : Addr)).map (·.add 13) = some ⟨gb, 13, none⟩ := by simp [Addr.add_lit]
  rw [ha] at sd
  have i1 : 9 ≤ c1 := by omega
  have i2 : 13 ≤ c1 := by omega
  clear o1 g1 s1' hm hY1 ha
  go_wp2_with fail
  refine (same_yes (st.alloc _) (Sl.lit w1 _ _ [1, 0, 2, 1, 0, 0, 1, 0, 5] 9 rfl rfl (by omega)) rfl).mono ?_
  rintro e w2 ⟨rfl, k2, hw2⟩
  replace sd : Sl w2 (some ⟨gb, 13, none⟩) 3 [0, 0, 0] := by rw [hw2]; exact (sd.alloc _).drewN k2
  replace G1 : Grow w w2 := by rw [hw2]; exact (G1.alloc _).drewN k2
  clear st hw2
  go_wp2_with fail
  refine (same_yes (sd.alloc _) (Sl.lit w2 _ _ [0, 0, 0] 3 rfl rfl (by omega)) rfl).mono ?_
  rintro e w3 ⟨rfl, k3, hw3⟩
  replace G1 : Grow w w3 := by rw [hw3]; exact (G1.alloc _).drewN k3
  clear sd hw3
  go_wp2_with fail
  refine (pm_new_yes 128 (by decide) w3).mono ?_
  rintro e w4 ⟨x, rfl, hP, hx, g4⟩
  go_wp2_with fail
  refine (pl_new hP 512 512).mono ?_
  rintro e w5 (⟨hm, -, -⟩ | ⟨-, l, rfl, hl, hb, g5⟩)
  case inl => exact absurd hm (by decide)
  have H5 : LG w5 l x fresh := ⟨hP.keep g5, hb, fun q => by have := hP.lt l q; omega⟩
  have hx5 : ∀ k, x.F k → w.heap.size ≤ k := fun k hk => Nat.le_trans G1.size (hx k hk)
  have G5 : Grow w w5 := (G1.trans g4).trans g5
  clear hP hx g4 hl hb g5 G1
  go_wp2_with fail
  refine (pl_append (H5.keep ((Grow.refl _).alloc _)) (RP.lit w5 _ pX) (fun p hp => by simp at hp; subst hp; exact ⟨by decide, by decide⟩)).mono ?_
  rintro e w6 ⟨rfl, H6, t6⟩
  rw [HL.out.1]
  rw [← HS1.out] at H6
  replace G5 : Grow w w6 := (G5.alloc _).low (t6.low hx5 (G5.alloc _).size)
  clear H5 t6
  go_wp2_with fail
  refine (pl_redo H6).mono ?_
  rintro e w7 ⟨rfl, H7, t7⟩
  rw [HL.out.2.1]
  replace G5 : Grow w w7 := G5.low (t7.low hx5 G5.size)
  clear H6 t7
  go_wp2_with fail
  refine (pm_lasts H7.1 3 1 (by decide)).mono ?_
  rintro e w8 ⟨A8, c8, rfl, o8, g8⟩
  rw [HL.out.2.2.1] at o8
  have cv := conv_s (c := c8) o8.sl
  have H8 := H7.keep g8
  replace G5 : Grow w w8 := G5.trans g8
  clear H7 g8 o8 hx5
  go_wp2_with fail
  refine (pl_end H8).mono ?_
  rintro e w9 ⟨rfl, g9⟩
  rw [HL.out.2.2.2]
  have G := Lib.hid (G5.trans g9)
  clear H8 g9 G5 cv
  go_wp2_with fail
  go_ret
  exact ⟨rfl, G.out⟩
end Go.Proofs.Ytncjfljmnkfghaa

namespace Go.Proofs.Ytncjfljmnkfghaa
open Go.RowKit

theorem rm_new_no (n : Int) (h : sizeB n = false) (w : World) :
    Calls Try.prog 50 #[.int .i64 n] w fun e w' => e = .returned (.pointer none) ∧ w = w' := by
  have h0 : ¬ (64 ≤ n ∧ n ≤ 1048576 ∧ n % 64 = 0) := fun q => by rw [sizeB_iff.2 q] at h; cases h
  by_cases h1 : n < 64
  · have z1 : decide (n < 64) = true := decide_eq_true h1
    clear h h0 h1
    go_enter Try.func50, Try.ntmps50
    go_wp2_with fail
    go_ret
    exact ⟨rfl, rfl⟩
  · have z1 : decide (n < 64) = false := decide_eq_false h1
    by_cases h2 : 1048576 < n
    · have z2 : decide (1048576 < n) = true := decide_eq_true h2
      clear h h0 h1 h2
      go_enter Try.func50, Try.ntmps50
      go_wp2_with fail
      go_ret
      exact ⟨rfl, rfl⟩
    · have z2 : decide (1048576 < n) = false := decide_eq_false h2
      have z3 : (Int.tmod n 64 != 0) = true := by rw [Int.tmod_eq_emod_of_nonneg (by omega), bne_iff_ne]; omega
      clear h h0 h1 h2
      go_enter Try.func50, Try.ntmps50
      go_wp2_with fail
      go_ret
      exact ⟨rfl, rfl⟩

theorem bool_info : (Try.prog.info? 4).map (fun i => (i.zero, i.size, i.bytes)) = some (some (.bool false), 1, 1) := by kernel_rfl
def zbytes (L : Nat) : Array Value := Array.replicate L (.int .u8 0)
def zbools (N : Nat) : Array Value := Array.replicate N (.bool false)
theorem make_bytes (L : Nat) (hL : L ≤ 1048576) (w : World) : (Instr.makeSlice 24 (.int .i64 (L : Int)) (.int .i64 (L : Int))).run Try.prog w = .ok (.slice (some ⟨w.heap.size, 0, none⟩) L L) (w.alloc (.cells (zbytes L) 5)) := by
  obtain ⟨i0, hi, hz, h1, h2⟩ := info_parts byte_info
  have := run_make (P := Try.prog) w 24 5 i0 _ Try.underlying24 hi hz .i64 .i64 L L (by omega) (Int.le_refl _) (by rw [h2]; omega) (by omega)
  have e : madeCells (Value.int .u8 0).cells (L * 1) = zbytes L := by
    rw [Nat.mul_one]; apply Array.ext
    · simp [madeCells, zbytes]
    · intro j h3 h4; simp [madeCells, zbytes, Value.cells, Nat.mod_one]
  simp only [Int.toNat_natCast, h1, e] at this
  exact this
theorem make_bools (N : Nat) (hN : N ≤ 1048576) (w : World) : (Instr.makeSlice 91 (.int .i64 (N : Int)) (.int .i64 (N : Int))).run Try.prog w = .ok (.slice (some ⟨w.heap.size, 0, none⟩) N N) (w.alloc (.cells (zbools N) 4)) := by
  obtain ⟨i0, hi, hz, h1, h2⟩ := info_parts bool_info
  have := run_make (P := Try.prog) w 91 4 i0 _ Try.underlying91 hi hz .i64 .i64 N N (by omega) (Int.le_refl _) (by rw [h2]; omega) (by omega)
  have e : madeCells (Value.bool false).cells (N * 1) = zbools N := by
    rw [Nat.mul_one]; apply Array.ext
    · simp [madeCells, zbools]
    · intro j h3 h4; simp [madeCells, zbools, Value.cells, Nat.mod_one]
  simp only [Int.toNat_natCast, h1, e] at this
  exact this

theorem zbytes_row {w : World} {g L : Nat} (h : w.heap[g]? = some (.cells (zbytes L) 5)) (hL : L ≤ 1048576) : CR w g 5 1 L L (bvs (List.replicate L 0)) := by
  refine ⟨by simp [bvs], Nat.le_refl _, by unfold maxLen; omega, _, h, by simp [zbytes], ?_⟩
  rw [List.take_of_length_le (by simp [zbytes])]
  simp [zbytes, bvs, bv]
theorem zbools_row {w : World} {g L : Nat} (h : w.heap[g]? = some (.cells (zbools L) 4)) (hL : L ≤ 1048576) : CR w g 4 1 L L (tbs (List.replicate L false)) := by
  refine ⟨by simp [tbs], Nat.le_refl _, by unfold maxLen; omega, _, h, by simp [zbools], ?_⟩
  rw [List.take_of_length_le (by simp [zbools])]
  simp [zbools, tbs]

set_option maxHeartbeats 2000000 in
theorem rm_new_yes (N : Nat) (hN : N % 8 = 0 ∧ 8 ≤ N ∧ N ≤ 131072) (w : World) :
    Calls Try.prog 50 #[.int .i64 (8 * N : Nat)] w fun e w' => ∃ x : MB, e = .returned (.pointer (some ⟨x.p, 0, none⟩)) ∧ RM w' x N (List.replicate (8 * N) 0) (List.replicate (8 * N) 0) (List.replicate N false) ∧ (∀ k, x.F k → w.heap.size ≤ k) ∧ Grow w w' := by
  obtain ⟨n, hn⟩ : ∃ n, n = 8 * N := ⟨_, rfl⟩
  have z1 : decide ((n : Int) < 64) = false := decide_eq_false (by omega)
  have z2 : decide (1048576 < (n : Int)) = false := decide_eq_false (by omega)
  have z3 : (Int.tmod (n : Int) 64 != 0) = false := by rw [Int.tmod_eq_emod_of_nonneg (by omega), show (n : Int) % 64 = 0 by omega]; rfl
  have z4 : ((n : Int) % 64 != 0) = false := by rw [show (n : Int) % 64 = 0 by omega]; rfl
  have e0 : (n : Int) / 8 = (N : Int) := by clear z1 z2 z3 z4; omega
  have e1 : Int.tdiv (n : Int) 8 = (N : Int) := by clear e0; rw [Int.tdiv_eq_ediv_of_nonneg (by omega)]; omega
  have e2 := wrap_small (q := N) (by have := hN.2.2; clear z1 z2 z3 z4 e0 e1; omega)
  have hmk := make_bytes n (by clear z1 z2 z3 z4 e0 e1 e2; omega)
  have hmb := make_bools N (by clear z1 z2 z3 z4 e0 e1 e2; omega)
  have HN := Lib.hid hN
  have HNN := Lib.hid hn
  rw [← hn]
  clear hn hN
  go_enter Try.func50, Try.ntmps50
  go_wp2_with fail
  go_ret
  obtain ⟨q0, q1, q2, q3⟩ := alloc4 w (.cells #[.slice (some ⟨w.heap.size + 1, 0, none⟩) n n, .slice (some ⟨w.heap.size + 1 + 1, 0, none⟩) n n, .slice (some ⟨w.heap.size + 1 + 1 + 1, 0, none⟩) N N] 93) (.cells (zbytes n) 5) (.cells (zbytes n) 5) (.cells (zbools N) 4)
  have hn := HNN.out
  have hN := HN.out
  refine ⟨⟨w.heap.size, w.heap.size + 1, w.heap.size + 1 + 1, w.heap.size + 1 + 1 + 1⟩, rfl, ⟨n, n, N, hN, by unfold MB.apart; simp; try omega, ⟨rfl, Nat.le_refl _, by unfold maxLen; clear e0 e1 e2 z1 z2 z3 z4; omega, _, q0, rfl, ?_⟩, ?_, ?_, ?_⟩, fun k hk => by (rcases hk with h | h | h | h <;> simp at h <;> omega), ((((Grow.refl w).alloc _).alloc _).alloc _).alloc _⟩
  · rw [← hn]; rfl
  · have := zbytes_row q1 (by clear e0 e1 e2 z1 z2 z3 z4; omega); rw [← hn]; exact this
  · have := zbytes_row q2 (by clear e0 e1 e2 z1 z2 z3 z4; omega); rw [← hn]; exact this
  · exact zbools_row q3 (by clear e0 e1 e2 z1 z2 z3 z4; omega)
end Go.Proofs.Ytncjfljmnkfghaa

namespace Go.Proofs.Ytncjfljmnkfghaa
open Go.RowKit

/-- A memory and a log, and the document's, in the same state and apart. -/
structure PX (w : World) (base pb l d : Nat) (x y : MB) (s : MS) : Prop where
  lg : LG w l x s
  rl : RL w d y s
  ap : ∀ k, x.F k → ¬ y.F k
  xd : ¬ x.F d
  yl : ¬ y.F l
  blk : Blk w pb [.pointer (some ⟨x.p, 0, none⟩), .pointer (some ⟨l, 0, none⟩), .pointer (some ⟨y.p, 0, none⟩), .pointer (some ⟨d, 0, none⟩)]
  xp : ¬ x.F pb
  yp : ¬ y.F pb
  xb : ∀ k, x.F k → base ≤ k
  yb : ∀ k, y.F k → base ≤ k
section
variable {w w' w1 w2 : World} {base pb l d : Nat} {x y : MB} {s s' : MS}
theorem PX.keep (h : PX w base pb l d x y s) (g : Grow w w') : PX w' base pb l d x y s :=
  ⟨h.lg.keep g, h.rl.keep g, h.ap, h.xd, h.yl, h.blk.keep g, h.xp, h.yp, h.xb, h.yb⟩
theorem PX.turn {F : Nat → Prop} (h : PX w base pb l d x y s) (t : Turn F w w') (hF : ∀ k, F k → ¬ x.F k ∧ ¬ y.F k ∧ k ≠ l ∧ k ≠ d ∧ k ≠ pb) : PX w' base pb l d x y s :=
  ⟨h.lg.turn t (fun k q => (hF k q).1) (fun q => (hF l q).2.2.1 rfl), h.rl.turn t (fun k q => (hF k q).2.1) (fun q => (hF d q).2.2.2.1 rfl), h.ap, h.xd, h.yl, h.blk.turn t (fun q => (hF pb q).2.2.2.2 rfl), h.xp, h.yp, h.xb, h.yb⟩
/-- A verb of the one, then of the other. -/
theorem PX.both (h : PX w base pb l d x y s) (h1 : LG w1 l x s') (t1 : Turn x.F w w1) (h2 : RL w2 d y s') (t2 : Turn y.F w1 w2) : PX w2 base pb l d x y s' :=
  ⟨h1.turn t2 (fun k q q2 => h.ap k q2 q) h.yl, h2, h.ap, h.xd, h.yl, (h.blk.turn t1 h.xp).turn t2 h.yp, h.xp, h.yp, h.xb, h.yb⟩
theorem PX.rl1 (h : PX w base pb l d x y s) (t1 : Turn x.F w w1) : RL w1 d y s := h.rl.turn t1 (fun k q => h.ap k q) h.xd
theorem PX.blk1 (h : PX w base pb l d x y s) (t1 : Turn x.F w w1) : Blk w1 pb [.pointer (some ⟨x.p, 0, none⟩), .pointer (some ⟨l, 0, none⟩), .pointer (some ⟨y.p, 0, none⟩), .pointer (some ⟨d, 0, none⟩)] := h.blk.turn t1 h.xp
theorem PX.ok (h : PX w base pb l d x y s) : s.ok := ⟨h.lg.1.lenS, h.lg.1.lenT, h.lg.1.lenA⟩
theorem PX.low (h : PX w base pb l d x y s) (hb : base ≤ w.heap.size) (t1 : Turn x.F w w1) (t2 : Turn y.F w1 w2) : Below base w w2 := (t1.low h.xb hb).trans (t2.low h.yb (Nat.le_trans hb t1.size))
end

set_option maxHeartbeats 4000000 in
set_option maxRecDepth 4000 in
theorem begin8 (w : World) : Calls Try.prog 23 #[] w fun e w' => ∃ pb l d x y, e = .returned (.pointer (some ⟨pb, 0, none⟩)) ∧ PX w' w.heap.size pb l d x y fresh ∧ w.heap.size ≤ pb ∧ w.heap.size ≤ l ∧ w.heap.size ≤ d ∧ Grow w w' := by
  go_enter Try.func23, Try.ntmps23
  go_wp2_with fail
  refine (pm_new_yes 128 (by decide) w).mono ?_
  rintro e w1 ⟨x, rfl, hP, hx, g1⟩
  go_wp2_with fail
  refine (pl_new hP 512 512).mono ?_
  rintro e w2 (⟨hm, -, -⟩ | ⟨-, l, rfl, hl, hb, g2⟩)
  case inl => exact absurd hm (by decide)
  have hxl : ∀ k, x.F k → k < w1.heap.size := hP.lt
  have H2 : LG w2 l x fresh := ⟨hP.keep g2, hb, fun q => by have := hP.lt l q; omega⟩
  have G2 := g1.trans g2
  have hz1 := g1.size
  have hz2 := g2.size
  clear hP hb g1 g2
  go_wp2_with fail
  refine (rm_new_yes 128 (by decide) w2).mono ?_
  rintro e w3 ⟨y, rfl, hR, hy, g3⟩
  have hyl : ∀ k, y.F k → k < w3.heap.size := hR.lt
  have hl2 : l < w2.heap.size := H2.2.1.1
  have H3 := Lib.hid (H2.keep g3)
  have HR := Lib.hid hR
  have HG3 := Lib.hid (G2.trans g3)
  have hz3 := g3.size
  have HX := Lib.hid (And.intro hx (And.intro hxl (And.intro hy hyl)))
  clear H2 hR G2 g3 hx hxl hy hyl
  go_wp2_with fail
  go_ret
  obtain ⟨hx, hxl, hy, hyl⟩ := HX.out
  have gg : Grow w3 ((w3.alloc (.cells #[.pointer (some ⟨y.p, 0, none⟩), .int .i64 512, .int .i64 512] 87)).alloc (.cells #[.pointer (some ⟨x.p, 0, none⟩), .pointer (some ⟨l, 0, none⟩), .pointer (some ⟨y.p, 0, none⟩), .pointer (some ⟨w3.heap.size, 0, none⟩)] 47)) := ((Grow.refl w3).alloc _).alloc _
  refine ⟨w3.heap.size + 1, l, w3.heap.size, x, y, by simp, ⟨H3.out.keep gg, ⟨HR.out.keep gg, (Blk.new w3 _ [.pointer (some ⟨y.p, 0, none⟩), .int .i64 512, .int .i64 512] _ (0, 0) rfl).keep ((Grow.refl _).alloc _), fun q => ?_⟩, fun k q q2 => ?_, fun q => ?_, fun q => ?_, ?_, fun q => ?_, fun q => ?_, fun k q => ?_, fun k q => ?_⟩, by omega, by omega, by omega, HG3.out.trans gg⟩
  · have := hyl _ q; omega
  · have := hxl _ q; have := hy _ q2; omega
  · have := hxl _ q; omega
  · have := hy _ q; omega
  · have := Blk.new (w3.alloc (.cells #[.pointer (some ⟨y.p, 0, none⟩), .int .i64 512, .int .i64 512] 87)) 47 [.pointer (some ⟨x.p, 0, none⟩), .pointer (some ⟨l, 0, none⟩), .pointer (some ⟨y.p, 0, none⟩), .pointer (some ⟨w3.heap.size, 0, none⟩)] _ (0, 0) rfl
    rw [World.size_alloc] at this
    exact this
  · have := hxl _ q; omega
  · have := hyl _ q; omega
  · exact hx k q
  · have := hy k q; omega

/-- What a walk wants of the bytes of the document's memory. -/
theorem RM.eyes2 {w : World} {x : MB} {S T : List UInt8} {A : List Bool} (h : RM w x 128 S T A) : ∃ L cs ct, Hid (L = 1024) ∧ L ≤ 1024 ∧ 1024 ≤ L ∧ w.cell? ⟨x.p, 0, none⟩ = some (.slice (some ⟨x.gs, 0, none⟩) L cs) ∧ w.cell? ⟨x.p, 1, none⟩ = some (.slice (some ⟨x.gt, 0, none⟩) L ct) ∧ Sl w (some ⟨x.gs, 0, none⟩) L S ∧ Sl w (some ⟨x.gt, 0, none⟩) L T := by
  have hl := h.lenS
  have hl2 := h.lenT
  obtain ⟨L, cs, ct, ca, HL, h1, h2, -, c0, c1, -, -⟩ := h.look
  have e : L = 1024 := HL.out
  exact ⟨L, cs, ct, Lib.hid e, by omega, by omega, c0, c1, ⟨by omega, by omega, h.seenRB⟩, ⟨by omega, by omega, h.lastRB⟩⟩

set_option maxHeartbeats 8000000 in
set_option maxRecDepth 8000 in
theorem like8 {w : World} {base pb l d : Nat} {x y : MB} {s : MS} (h : PX w base pb l d x y s) :
    Calls Try.prog 28 #[.pointer (some ⟨pb, 0, none⟩)] w fun e w' => e = .returned (.bool true) ∧ Grow w w' := by
  have H := Lib.hid h
  obtain ⟨b0, b1, b2, b3⟩ := h.blk.c4
  obtain ⟨L, cs, ct, HL, hL1, hL2, c0, c1, hs, ht⟩ := h.rl.1.eyes2
  have HS := Lib.hid hs
  have HT := Lib.hid ht
  have HLS := Lib.hid (show (s.S.drop 0).take 1024 = s.S by rw [List.drop_zero, List.take_of_length_le (by rw [h.ok.S]; exact Nat.le_refl _)])
  have HLT := Lib.hid (show (s.T.drop 0).take 1024 = s.T by rw [List.drop_zero, List.take_of_length_le (by rw [h.ok.T]; exact Nat.le_refl _)])
  have HF := Lib.hid (recs_few s h.ok.S)
  clear h hs ht
  go_enter Try.func28, Try.ntmps28
  go_wp2_with fail
  refine (pm_load H.out.lg.1 0 1024 (by decide)).mono ?_
  rintro e w1 ⟨A1, k1, rfl, o1, g1⟩
  rw [HLS.out] at o1
  have s1 := Lib.hid o1.sl
  have d0 := g1.cell b0
  have G1 := Lib.hid g1
  clear o1 g1 b0
  go_wp2_with fail
  refine (pm_lasts (H.out.lg.1.keep G1.out) 0 1024 (by decide)).mono ?_
  rintro e w2 ⟨A2, k2, rfl, o2, g2⟩
  rw [HLT.out] at o2
  have s2 := Lib.hid o2.sl
  have s1' := Lib.hid (s1.out.keep g2)
  have G2 := Lib.hid (G1.out.trans g2)
  have d2 := G2.out.cell b2
  have d4 := G2.out.cell c0
  clear o2 g2 d0 s1
  go_wp2_with fail
  refine (same_yes s1'.out (HS.out.keep G2.out) rfl).mono ?_
  rintro e w3 ⟨rfl, n3, hw3⟩
  have g3 : Grow w2 w3 := by rw [hw3]; exact (Grow.refl _).drewN n3
  have G3 := Lib.hid (G2.out.trans g3)
  have s2' := Lib.hid (s2.out.keep g3)
  have f2 := G3.out.cell b2
  have f5 := G3.out.cell c1
  clear hw3 g3 d2 d4 s2 s1'
  go_wp2_with fail
  refine (same_yes s2'.out (HT.out.keep G3.out) rfl).mono ?_
  rintro e w4 ⟨rfl, n4, hw4⟩
  have g4 : Grow w3 w4 := by rw [hw4]; exact (Grow.refl _).drewN n4
  have G4 := Lib.hid (G3.out.trans g4)
  have f3 := G4.out.cell b3
  clear hw4 g4 f2 f5 s2'
  go_wp2_with fail
  refine (rl_read (H.out.rl.keep G4.out)).mono ?_
  rintro e w5 ⟨v5, R5', rfl, o5, hR5, g5⟩
  have hl5 : R5'.length ≤ 63 := by rw [← List.length_map (f := RW.L), hR5]; exact HF.out
  obtain ⟨A5, c5, rfl, -, rv5⟩ := o5.rv (by omega)
  have RV5 := Lib.hid rv5
  have HR5 := Lib.hid hR5
  have G5 := Lib.hid (G4.out.trans g5)
  have f1 := G5.out.cell b1
  clear o5 hR5 g5 rv5 f3
  go_wp2_with fail
  refine (pl_records (H.out.lg.keep G5.out)).mono ?_
  rintro e w6 ⟨v6, R6, rfl, o6, hR6, g6⟩
  have hl6 : R6.length ≤ 63 := by rw [← List.length_map (f := RW.L), hR6]; exact HF.out
  obtain ⟨A6, c6, rfl, -, rv6⟩ := o6.rv (by omega)
  have hll : R5'.length = R6.length := by have a := congrArg List.length HR5.out; have b := congrArg List.length hR6; rw [List.length_map] at a b; omega
  rw [hll] at RV5 ⊢
  obtain ⟨q, hq⟩ : ∃ q, q = R6.length := ⟨_, rfl⟩
  rw [← hq] at RV5 rv6 hl6 ⊢
  have RV6 := Lib.hid rv6
  have RV5' := Lib.hid (RV5.out.keep g6)
  have G6 := Lib.hid (G5.out.trans g6)
  have HEQ := Lib.hid (show R6.map RW.L = R5'.map RW.L by rw [hR6, HR5.out])
  have HLL := Lib.hid (show ∀ r ∈ R6, r.L.length ≤ 60000 from fun r hr => by
    have := (rcL_few _ (lgB s.S) (Nat.le_refl _) r.L (by have : r.L ∈ R6.map RW.L := List.mem_map_of_mem hr; rw [hR6] at this; exact this)).1
    omega)
  clear o6 hR6 g6 rv6 f1 hll hq
  go_wp2_with fail
  refine (recs_same RV6.out RV5'.out HEQ.out (by omega) HLL.out).mono ?_
  rintro e w7 ⟨rfl, g7⟩
  have G7 := Lib.hid (G6.out.trans g7)
  have H7 := Lib.hid (H.out.keep G7.out)
  have k1 := G7.out.cell b1
  have k3 := G7.out.cell b3
  obtain ⟨E, hE⟩ : ∃ E, E = lgE s.S := ⟨_, rfl⟩
  have HE := Lib.hid hE
  clear g7 hE b1 b2 b3 c0 c1
  go_wp2_with fail
  go_region_held3 (fun w' => w'.cell? ⟨pb, 1, none⟩ = some (.pointer (some ⟨l, 0, none⟩)) ∧ w'.cell? ⟨pb, 3, none⟩ = some (.pointer (some ⟨d, 0, none⟩))) (first | exact ⟨k1, k3⟩ | exact hs8) ((first
    | (go_at_call 33; refine (pl_end (H7.out.lg.keep ?_)).mono ?_; (repeat (first | exact Grow.refl _ | exact G8 | refine Grow.drew ?_ | refine Grow.drewN ?_ _)); rintro e w8 ⟨rfl, g8⟩; rw [← HE.out]; have G8 : Grow w7 w8 := Grow.trans (by (repeat (first | exact Grow.refl _ | exact G8 | refine Grow.drew ?_ | refine Grow.drewN ?_ _))) g8; have hs8 := And.intro (G8.cell k1) (G8.cell k3))
    | (go_at_call 57; refine (rl_end (H7.out.rl.keep ?_)).mono ?_; (repeat (first | exact Grow.refl _ | exact G8 | refine Grow.drew ?_ | refine Grow.drewN ?_ _)); rintro e w8 ⟨rfl, g8⟩; rw [← HE.out]; have G8 : Grow w7 w8 := Grow.trans (by (repeat (first | exact Grow.refl _ | exact G8 | refine Grow.drew ?_ | refine Grow.drewN ?_ _))) g8; have hs8 := And.intro (G8.cell k1) (G8.cell k3))))
  all_goals
    have GG := Lib.hid (G7.out.trans G8)
    clear G8 hs8 k1 k3
    go_wp2_with fail
    go_ret
    exact ⟨rfl, GG.out⟩
end Go.Proofs.Ytncjfljmnkfghaa

namespace Go.Proofs.Ytncjfljmnkfghaa
open Go.RowKit

theorem tmod2 {p : Int} (h : ¬ p < 0) : (Int.tmod p 2 == 1) = oddP p := by
  rw [Int.tmod_eq_emod_of_nonneg (by omega)]
  unfold oddP
  rw [decide_eq_false h]
  have : p % 2 = 0 ∨ p % 2 = 1 := by omega
  rcases this with e | e <;> rw [e] <;> rfl
theorem tmod2n {p : Int} (h : p < 0) : (Int.tmod (-(p + 1)) 2 == 1) = oddP p := by
  rw [Int.tmod_eq_emod_of_nonneg (by omega)]
  unfold oddP
  rw [decide_eq_true h]
  have : p % 2 = 0 ∨ p % 2 = 1 := by omega
  rcases this with e | e
  · rw [e, show -(p + 1) % 2 = 1 by omega]; rfl
  · rw [e, show -(p + 1) % 2 = 0 by omega]; rfl
/-- The bytes before j as they last, the others as they are seen. -/
def backL (S T : List UInt8) (j : Nat) : List UInt8 := (List.range S.length).map fun i => if i < j then T.getD i 0 else S.getD i 0
theorem backL_length (S T : List UInt8) (j : Nat) : (backL S T j).length = S.length := by simp [backL]
theorem backL_get (S T : List UInt8) (j i : Nat) (hi : i < S.length) : (backL S T j).getD i 0 = if i < j then T.getD i 0 else S.getD i 0 := by simp [backL, List.getD_eq_getElem?_getD, hi]
theorem backL_zero (S T : List UInt8) : backL S T 0 = S := ext_getD (backL_length ..) fun i hi => by rw [backL_length] at hi; rw [backL_get _ _ _ _ hi, if_neg (by omega)]
theorem backL_end (S T : List UInt8) (h : S.length = T.length) : backL S T S.length = T := ext_getD (by rw [backL_length, h]) fun i hi => by rw [backL_length] at hi; rw [backL_get _ _ _ _ hi, if_pos hi]
theorem backL_step (S T : List UInt8) (j : Nat) (hj : j < S.length) : (backL S T j).set j (T.getD j 0) = backL S T (j + 1) := by
  refine ext_getD (by rw [List.length_set, backL_length, backL_length]) fun i hi => ?_
  rw [List.length_set, backL_length] at hi
  rw [backL_get _ _ _ _ hi, List.getD_eq_getElem?_getD]
  by_cases e : i = j
  · subst e; rw [List.getElem?_set_self (by rw [backL_length]; exact hj), if_pos (by omega)]; rfl
  · rw [List.getElem?_set_ne (Ne.symm e), ← List.getD_eq_getElem?_getD, backL_get _ _ _ _ hi]
    by_cases h2 : i < j
    · rw [if_pos h2, if_pos (by omega)]
    · rw [if_neg h2, if_neg (by omega)]
def offA (A : List Bool) (k : Nat) : List Bool := (List.range A.length).map fun j => A.getD j false && decide (k ≤ j)
theorem offA_length (A : List Bool) (k : Nat) : (offA A k).length = A.length := by simp [offA]
theorem offA_get (A : List Bool) (k j : Nat) (hj : j < A.length) : (offA A k).getD j false = (A.getD j false && decide (k ≤ j)) := by simp [offA, List.getD_eq_getElem?_getD, hj]
theorem offA_step (A : List Bool) (k : Nat) (hk : k < A.length) : (offA A k).set k false = offA A (k + 1) := getD_ext (by simp [offA_length]) fun j hj => by
  rw [List.length_set, offA_length] at hj
  rw [getD_set _ _ _ _ (by rw [offA_length]; exact hk), offA_get _ _ _ hj, offA_get _ _ _ hj]
  by_cases e : j = k
  · subst e; rw [if_pos rfl, decide_eq_false (by omega)]; simp
  · rw [if_neg e]; congr 1; simp; omega
theorem offA_zero (A : List Bool) : offA A 0 = A := geA_zero A
theorem offA_end (A : List Bool) : offA A A.length = List.replicate A.length false := geA_end A

def RCrashInv (w wr : World) (x : MB) (N : Nat) (S T : List UInt8) (pk : List Int) (t : Value) : Prop := ∃ (i : Nat) (A' : List Bool), t = .int .i64 (i : Int) ∧ i ≤ (dirtyL S T N).length ∧ RM wr x N S (mixL S T (crashB (dirtyL S T N) pk i)) A' ∧ Turn x.F w wr
def RBackInv (w wr : World) (x : MB) (N : Nat) (S T : List UInt8) (A : List Bool) (t : Value) : Prop := ∃ j : Nat, t = .int .i64 (j : Int) ∧ j ≤ 8 * N ∧ RM wr x N (backL S T j) T A ∧ Turn x.F w wr
def ROffInv (w wr : World) (x : MB) (N : Nat) (S T : List UInt8) (A : List Bool) (t : Value) : Prop := ∃ k : Nat, t = .int .i64 (k : Int) ∧ k ≤ N ∧ RM wr x N S T (offA A k) ∧ Turn x.F w wr

set_option maxHeartbeats 4000000 in
set_option maxRecDepth 8000 in
theorem rm_crash {w : World} {x : MB} {N : Nat} {S T : List UInt8} {A : List Bool} (h : RM w x N S T A) {B : Option Addr} {m c : Nat} {pk : List Int} (hs : RI w B m pk) (hB : 0 < m → ∀ p, B = some p → ¬ x.F p.block) (hpk : ∀ p ∈ pk, -9223372036854775808 ≤ p ∧ p ≤ 9223372036854775807) :
    Calls Try.prog 67 #[.pointer (some ⟨x.p, 0, none⟩), .slice B m c] w fun e w' => e = .returned (.tuple #[]) ∧ RM w' x N (mixL S T (crashB (dirtyL S T N) pk (dirtyL S T N).length)) (mixL S T (crashB (dirtyL S T N) pk (dirtyL S T N).length)) (List.replicate N false) ∧ Turn x.F w w' := by
  have HB := Lib.hid h.bound
  have HLT := Lib.hid h.lt
  have HLS := Lib.hid h.lenS
  have HLTT := Lib.hid h.lenT
  have H := Lib.hid h
  have HS := Lib.hid hs
  have HBF := Lib.hid hB
  have HPL := Lib.hid hs.1
  have HPK := Lib.hid hpk
  clear h hs hB hpk
  go_enter Try.func67, Try.ntmps67
  go_wp2_with fail
  refine (rm_dirty H.out).mono ?_
  rintro e w1 ⟨v, rfl, ho, g1⟩
  obtain ⟨D, d, rfl, hd, hR, hDF⟩ := ho.far
  have HDF := Lib.hid (show 0 < (dirtyL S T N).length → ∀ p, D = some p → ¬ x.F p.block from fun _ p hp q => by have := hDF p hp; have := HLT.out _ q; omega)
  have H1 := Lib.hid (H.out.keep g1)
  have HS1 := Lib.hid (HS.out.keep g1)
  have G1 := Lib.hid g1
  obtain ⟨ld, hld⟩ : ∃ ld, (dirtyL S T N).length = ld := ⟨_, rfl⟩
  have HLD := Lib.hid hld
  have HLN := Lib.hid (show ld ≤ N by rw [← hld]; exact dirtyL_length S T N)
  obtain ⟨T1, hT1⟩ : ∃ T1, T1 = mixL S T (crashB (dirtyL S T N) pk (dirtyL S T N).length) := ⟨_, rfl⟩
  have HT1 := Lib.hid hT1
  rw [hld] at hR hd HDF ⊢
  have HR := Lib.hid hR
  clear ho hR hDF hld g1 hT1
  go_upto_block 0 with fail
  go_cut [5, 6] (fun i n wx => (∃ A', RM wx x N S T1 A') ∧ Turn x.F w1 wx)
  case first =>
    go_wp2_with fail
    go_loopw [5, 6] (fun t _ wr => RCrashInv w1 wr x N S T pk t) (fun t _ _ => ld - (intOf t).toNat)
    case atStart => exact ⟨0, A, rfl, Nat.zero_le _, by rw [mixL_none S T (B := crashB (dirtyL S T N) pk 0) (fun k => rfl)]; exact H1.out, Turn.refl _ _⟩
    case round =>
      obtain ⟨i, A', rfl, hi, hP, ht⟩ := hrel
      rw [HLD.out] at hi
      by_cases hlt : i < ld
      · by_cases hip : i < m
        · obtain ⟨b, o, z, hz, rfl, hb, cz⟩ := (HR.out.turn ht HDF.out).at_ hlt
          obtain ⟨k, rfl, hkN, -⟩ := dirtyL_get hz
          obtain ⟨b2, o2, p, hp, rfl, hb2, cp⟩ := (HS1.out.turn ht HBF.out).at_ hip
          have hgp : pk.getD i 0 = p := by rw [List.getD_eq_getElem?_getD, hp]; rfl
          have hbp := HPK.out p (List.mem_of_getElem? hp)
          have HZ := Lib.hid hz
          have HGP := Lib.hid hgp
          have e5 := wrapS hlt (Nat.le_trans HLN.out (Nat.le_trans HB.out.2.2 (by decide)))
          have HP := Lib.hid hP
          have hil : i < pk.length := by rw [HPL.out]; exact hip
          have HIL := Lib.hid hil
          have z1 : decide (i < m) = true := decide_eq_true hip
          have z2 : decide (i < ld) = true := decide_eq_true hlt
          clear hP hz hb hp hgp hb2 hil
          by_cases hneg : p < 0
          · have w1' : wrap64 (p + 1) = p + 1 := IntWalk.wrap64_in _ (by omega)
            have w2' : wrap64 (-(p + 1)) = -(p + 1) := IntWalk.wrap64_in _ (by clear w1'; omega)
            have z3 : decide (p < 0) = true := decide_eq_true hneg
            have hod := tmod2n hneg
            rw [Int.neg_tmod] at hod
            clear hbp hneg
            cases hq : oddP p with
            | true =>
              rw [hq] at hod
              have HQ := Lib.hid (show mixL S T (crashB (dirtyL S T N) pk (i + 1)) = keepN S (mixL S T (crashB (dirtyL S T N) pk i)) (8 * k) 8 by rw [mixL_keep, crashB_go HZ.out HIL.out (by rw [HGP.out]; exact hq)])
              clear hq
              go_wp2_with fail
              refine (rm_keep HP.out k hkN).mono ?_
              rintro e w4 ⟨rfl, hP4, t4⟩
              have X : RCrashInv w1 w4 x N S T pk (.int .i64 ((i : Int) + 1)) := ⟨i + 1, _, by simp, by rw [HLD.out]; exact hlt, by rw [HQ.out]; exact hP4, ht.and t4⟩
              clear hP4 t4
              go_wp2_with fail
              go_roundw
              case rel => (try rw [e5]); first | exact X | ((repeat apply Exists.intro); exact X) | ((repeat apply Exists.intro); refine ⟨X, ?_⟩; rfl)
              case measure => first | exact meas hlt | exact measW hlt e5
            | false =>
              rw [hq] at hod
              have X : RCrashInv w1 wr x N S T pk (.int .i64 ((i : Int) + 1)) := ⟨i + 1, A', by simp, by rw [HLD.out]; exact hlt, by rw [crashB_skip (i := i) (fun _ => by rw [HGP.out]; exact hq)]; exact HP.out, ht⟩
              clear hq
              go_wp2_with fail
              go_roundw
              case rel => (try rw [e5]); first | exact X | ((repeat apply Exists.intro); exact X) | ((repeat apply Exists.intro); refine ⟨X, ?_⟩; rfl)
              case measure => first | exact meas hlt | exact measW hlt e5
          · have z3 : decide (p < 0) = false := decide_eq_false hneg
            have hod := tmod2 hneg
            clear hbp hneg
            cases hq : oddP p with
            | true =>
              rw [hq] at hod
              have HQ := Lib.hid (show mixL S T (crashB (dirtyL S T N) pk (i + 1)) = keepN S (mixL S T (crashB (dirtyL S T N) pk i)) (8 * k) 8 by rw [mixL_keep, crashB_go HZ.out HIL.out (by rw [HGP.out]; exact hq)])
              clear hq
              go_wp2_with fail
              refine (rm_keep HP.out k hkN).mono ?_
              rintro e w4 ⟨rfl, hP4, t4⟩
              have X : RCrashInv w1 w4 x N S T pk (.int .i64 ((i : Int) + 1)) := ⟨i + 1, _, by simp, by rw [HLD.out]; exact hlt, by rw [HQ.out]; exact hP4, ht.and t4⟩
              clear hP4 t4
              go_wp2_with fail
              go_roundw
              case rel => (try rw [e5]); first | exact X | ((repeat apply Exists.intro); exact X) | ((repeat apply Exists.intro); refine ⟨X, ?_⟩; rfl)
              case measure => first | exact meas hlt | exact measW hlt e5
            | false =>
              rw [hq] at hod
              have X : RCrashInv w1 wr x N S T pk (.int .i64 ((i : Int) + 1)) := ⟨i + 1, A', by simp, by rw [HLD.out]; exact hlt, by rw [crashB_skip (i := i) (fun _ => by rw [HGP.out]; exact hq)]; exact HP.out, ht⟩
              clear hq
              go_wp2_with fail
              go_roundw
              case rel => (try rw [e5]); first | exact X | ((repeat apply Exists.intro); exact X) | ((repeat apply Exists.intro); refine ⟨X, ?_⟩; rfl)
              case measure => first | exact meas hlt | exact measW hlt e5
        · have z1 : decide (i < m) = false := decide_eq_false hip
          have z2 : decide (i < ld) = true := decide_eq_true hlt
          have HF := Lib.hid (show RM wr x N S T1 A' by
            rw [HT1.out, HLD.out, show ld = i + (ld - i) by omega, crashB_after (by rw [HPL.out]; omega)]
            exact hP)
          clear hP
          go_wp2_with fail
          go_meet
          exact ⟨⟨_, HF.out⟩, ht⟩
      · have z2 : decide (i < ld) = false := decide_eq_false hlt
        have HF := Lib.hid (show RM wr x N S T1 A' by rw [HT1.out, HLD.out, show ld = i by omega]; exact hP)
        clear hP
        go_wp2_with fail
        go_meet
        exact ⟨⟨_, HF.out⟩, ht⟩
  case rest =>
    obtain ⟨⟨A1, hP⟩, ht⟩ := hcut
    have HP := Lib.hid hP
    have HT := Lib.hid ht
    have HL1 := Lib.hid hP.lenT
    have HLA1 := Lib.hid hP.lenA
    clear hP ht
    go_wp2_with fail
    go_loopw [7] (fun t wr => RBackInv w1 wr x N S T1 A1 t) (fun t _ => 8 * N - (intOf t).toNat)
    case atStart => exact ⟨0, rfl, Nat.zero_le _, by rw [backL_zero]; exact HP.out, HT.out⟩
    case round =>
      obtain ⟨j, rfl, hj, hP2, ht2⟩ := hrel
      obtain ⟨L, cs, ct, ca, HLL, hcs, hct, -, c0, c1, -, l0⟩ := hP2.look
      by_cases hlt : j < 8 * N
      · have hiL : j < L := by rw [HLL.out]; exact hlt
        obtain ⟨s0, f0⟩ := hP2.seenAt hlt
        obtain ⟨t0, -⟩ := hP2.lastAt hlt
        obtain ⟨u, hu⟩ : ∃ u, u = T1.getD j 0 := ⟨_, rfl⟩
        rw [← hu] at t0
        have e5 := wrapS hlt (Nat.mul_le_mul_left 8 HB.out.2.2)
        obtain ⟨hP3, t3⟩ := hP2.seenSet j u
        rw [hu, backL_step _ _ _ (by rw [HLS.out]; exact hlt), ← hu] at hP3
        have X : RBackInv w1 (wr.setCell ⟨x.gs, j, none⟩ (.int .u8 (u.toNat : Int))).drew x N S T1 A1 (.int .i64 ((j : Int) + 1)) := ⟨j + 1, by simp, hlt, hP3.keep ((Grow.refl _).drew), (ht2.and t3).andGrow ((Grow.refl _).drew)⟩
        clear hP2 ht2 hu hP3 t3
        go_wp2_with fail
        go_region
        go_wp2_with fail
        go_roundw
        case rel => (try rw [e5]); first | exact X | ((repeat apply Exists.intro); exact X) | ((repeat apply Exists.intro); refine ⟨X, ?_⟩; rfl)
        case measure => first | exact meas hlt | exact measW hlt e5
      · have hiL : ¬ j < L := by rw [HLL.out]; exact hlt
        have HP3 := Lib.hid (show RM wr x N T1 T1 A1 by rw [show j = S.length by rw [HLS.out]; omega, backL_end _ _ (by rw [HLS.out, HL1.out])] at hP2; exact hP2)
        have HT3 := Lib.hid ht2
        clear hP2 ht2
        go_wp2_with fail
        go_loopw [8] (fun t wr => ROffInv w1 wr x N T1 T1 A1 t) (fun t _ => N - (intOf t).toNat)
        case atStart => exact ⟨0, rfl, Nat.zero_le _, by rw [offA_zero]; exact HP3.out, HT3.out⟩
        case round =>
          obtain ⟨k, rfl, hk, hP4, ht4⟩ := hrel
          obtain ⟨L4, cs4, ct4, ca4, HLL4, -, -, hca4, -, -, d2, l4⟩ := hP4.look
          by_cases hlt4 : k < N
          · obtain ⟨a0, f0⟩ := hP4.awayAt hlt4
            have e5 := wrapS hlt4 (Nat.le_trans HB.out.2.2 (by decide))
            obtain ⟨hP5, t5⟩ := hP4.awaySet k false
            rw [offA_step _ _ (by rw [HLA1.out]; exact hlt4)] at hP5
            have X : ROffInv w1 (wr.setCell ⟨x.b, k, none⟩ (.bool false)) x N T1 T1 A1 (.int .i64 ((k : Int) + 1)) := ⟨k + 1, by simp, hlt4, hP5, ht4.and t5⟩
            clear hP4 ht4 hP5 t5 c0 c1 l0
            go_wp2_with fail
            go_roundw
            case rel => (try rw [e5]); first | exact X | ((repeat apply Exists.intro); exact X) | ((repeat apply Exists.intro); refine ⟨X, ?_⟩; rfl)
            case measure => first | exact meas hlt4 | exact measW hlt4 e5
          · obtain rfl : k = N := by omega
            have HF := Lib.hid (show RM wr x k T1 T1 (List.replicate k false) by
              have h2 := offA_end A1
              rw [HLA1.out] at h2
              rw [← h2]
              exact hP4)
            clear hP4 c0 c1 l0
            go_wp2_with fail
            go_end0
            exact ⟨rfl, by rw [← HT1.out]; exact HF.out, (Turn.grow G1.out x.F).and ht4⟩
end Go.Proofs.Ytncjfljmnkfghaa
