/- commonslaw08: begin, like. few, little: the first patches, cut. commonsref03: Crash. commonslaw08.does: what it leaves. No statement of the seat is proved here. -/
import Derived.Test.YtlinlmimakealaaZ16
import Derived.Test.YtlinlmimakealaaZ08
import Derived.Test.YtlinlmimakealaaZ12
import Derived.Test.YtlinlmimakealaaZ07
import Derived.Deep.CutBlock
import Derived.Deep.DeepCutAuto
import Derived.Deep.RegionHeld3
namespace Go.Proofs.Ytlinlmimakealaa
open Go.RowKit

/-- A memory and a log, and the document's, in the same state and apart. -/
structure PX (w : World) (base pb l d : Nat) (x y : MB) (s : MS) : Prop where
  lg : LG w l x s
  rl : RL w d y s
  ap : ∀ k, x.F k → ¬ y.F k
  xd : ¬ x.F d
  yl : ¬ y.F l
  blk : Blk w pb [.pointer (some ⟨x.p, 0, none⟩), .pointer (some ⟨l, 0, none⟩), .pointer (some ⟨y.p, 0, none⟩), .pointer (some ⟨d, 0, none⟩)]
  xp : ¬ x.F pb
  yp : ¬ y.F pb
  xb : ∀ k, x.F k → base ≤ k
  yb : ∀ k, y.F k → base ≤ k
section
variable {w w' w1 w2 : World} {base pb l d : Nat} {x y : MB} {s s' : MS}
theorem PX.keep (h : PX w base pb l d x y s) (g : Grow w w') : PX w' base pb l d x y s :=
  ⟨h.lg.keep g, h.rl.keep g, h.ap, h.xd, h.yl, h.blk.keep g, h.xp, h.yp, h.xb, h.yb⟩
theorem PX.turn {F : Nat → Prop} (h : PX w base pb l d x y s) (t : Turn F w w') (hF : ∀ k, F k → ¬ x.F k ∧ ¬ y.F k ∧ k ≠ l ∧ k ≠ d ∧ k ≠ pb) : PX w' base pb l d x y s :=
  ⟨h.lg.turn t (fun k q => (hF k q).1) (fun q => (hF l q).2.2.1 rfl), h.rl.turn t (fun k q => (hF k q).2.1) (fun q => (hF d q).2.2.2.1 rfl), h.ap, h.xd, h.yl, h.blk.turn t (fun q => (hF pb q).2.2.2.2 rfl), h.xp, h.yp, h.xb, h.yb⟩
/-- A verb of the one, then of the other. -/
theorem PX.both (h : PX w base pb l d x y s) (h1 : LG w1 l x s') (t1 : Turn x.F w w1) (h2 : RL w2 d y s') (t2 : Turn y.F w1 w2) : PX w2 base pb l d x y s' :=
  ⟨h1.turn t2 (fun k q q2 => h.ap k q2 q) h.yl, h2, h.ap, h.xd, h.yl, (h.blk.turn t1 h.xp).turn t2 h.yp, h.xp, h.yp, h.xb, h.yb⟩
theorem PX.rl1 (h : PX w base pb l d x y s) (t1 : Turn x.F w w1) : RL w1 d y s := h.rl.turn t1 (fun k q => h.ap k q) h.xd
theorem PX.blk1 (h : PX w base pb l d x y s) (t1 : Turn x.F w w1) : Blk w1 pb [.pointer (some ⟨x.p, 0, none⟩), .pointer (some ⟨l, 0, none⟩), .pointer (some ⟨y.p, 0, none⟩), .pointer (some ⟨d, 0, none⟩)] := h.blk.turn t1 h.xp
theorem PX.ok (h : PX w base pb l d x y s) : s.ok := ⟨h.lg.1.lenS, h.lg.1.lenT, h.lg.1.lenA⟩
theorem PX.low (h : PX w base pb l d x y s) (hb : base ≤ w.heap.size) (t1 : Turn x.F w w1) (t2 : Turn y.F w1 w2) : Below base w w2 := (t1.low h.xb hb).trans (t2.low h.yb (Nat.le_trans hb t1.size))
end

/-- What a walk wants of the bytes of the document's memory. -/
theorem RM.eyes2 {w : World} {x : MB} {S T : List UInt8} {A : List Bool} (h : RM w x 128 S T A) : ∃ L cs ct, Hid (L = 1024) ∧ L ≤ 1024 ∧ 1024 ≤ L ∧ w.cell? ⟨x.p, 0, none⟩ = some (.slice (some ⟨x.gs, 0, none⟩) L cs) ∧ w.cell? ⟨x.p, 1, none⟩ = some (.slice (some ⟨x.gt, 0, none⟩) L ct) ∧ Sl w (some ⟨x.gs, 0, none⟩) L S ∧ Sl w (some ⟨x.gt, 0, none⟩) L T := by
  have hl := h.lenS
  have hl2 := h.lenT
  obtain ⟨L, cs, ct, ca, HL, h1, h2, -, c0, c1, -, -⟩ := h.look
  have e : L = 1024 := HL.out
  exact ⟨L, cs, ct, Lib.hid e, by omega, by omega, c0, c1, ⟨by omega, by omega, h.seenRB⟩, ⟨by omega, by omega, h.lastRB⟩⟩

end Go.Proofs.Ytlinlmimakealaa

namespace Go.Proofs.Ytlinlmimakealaa
open Go.RowKit

def cutP (m : Nat) (p : PT) : PT := ⟨p.pos, if m < p.dat.size then p.dat.extract 0 m else p.dat⟩
def fewP (k m : Nat) (L : List PT) : List PT := (L.take k).map (cutP m)
theorem fewP_length (k m : Nat) (L : List PT) : (fewP k m L).length ≤ k := by simp [fewP]; omega
theorem cutP_size {m : Nat} (p : PT) : (cutP m p).dat.size ≤ m := by
  unfold cutP
  by_cases h : m < p.dat.size
  · simp [h, ByteArray.size_extract]; omega
  · simp [h]; omega
theorem fewP_wide {k m : Nat} {L : List PT} (h : ∀ p ∈ L, p.wide) : ∀ p ∈ fewP k m L, p.wide := by
  intro p hp
  obtain ⟨q, hq, rfl⟩ := List.mem_map.1 hp
  exact h q (List.mem_of_mem_take hq)
theorem fewP_few {k m : Nat} {L : List PT} : ∀ p ∈ fewP k m L, p.dat.size ≤ m := by
  intro p hp
  obtain ⟨q, hq, rfl⟩ := List.mem_map.1 hp
  exact cutP_size q
theorem fewP_step {i m : Nat} {L : List PT} {r : PT} (h : L[i]? = some r) : fewP (i + 1) m L = fewP i m L ++ [cutP m r] := by
  rw [fewP, List.take_add_one, h]; simp [fewP]
theorem fewP_end {i k m n : Nat} {L : List PT} (hn : L.length = n) (hi : i ≤ n) (hk : i ≤ k) (h : ¬ (i < n ∧ i < k)) : fewP i m L = fewP k m L := by
  unfold fewP
  congr 1
  rcases Nat.lt_or_ge i k with q | q
  · rw [List.take_of_length_le (by omega), List.take_of_length_le (by omega)]
  · rw [show i = k by omega]
/-- A slice that reads as patches, of any length. -/
def RQ (w : World) (A : Option Addr) (n : Nat) (L : List PT) : Prop := L.length = n ∧ Rd w w.heap.size A 2 n (pcs L)
theorem RP.rq {w : World} {A : Option Addr} {n : Nat} {L : List PT} (h : RP w A n L) : RQ w A n L := ⟨h.1, h.2.2⟩
theorem RQ.keep {w w' : World} {A : Option Addr} {n : Nat} {L : List PT} (h : RQ w A n L) (g : Grow w w') : RQ w' A n L := ⟨h.1, (Rd.below h.2 g).more g.size⟩
theorem RQ.at_ {w : World} {A : Option Addr} {n : Nat} {L : List PT} (h : RQ w A n L) {i : Nat} (hi : i < n) : ∃ b o r, L[i]? = some r ∧ A = some ⟨b, o, none⟩ ∧ b < w.heap.size ∧ w.cell? ⟨b, o + i * 2, none⟩ = some (.int .i64 r.pos) ∧ w.cell? ⟨b, o + i * 2 + 1, none⟩ = some (.string r.dat) := by
  obtain ⟨hn, hl, hr⟩ := h
  obtain ⟨b, o, rfl, hb, hc⟩ := hr (by omega)
  have hi' : i < L.length := by omega
  refine ⟨b, o, L[i], by simp [hi'], rfl, hb, ?_, ?_⟩
  · have := hc (i * 2 + 0) _ ((pcs_get L i 0 hi' (by omega)).trans rfl); simpa [Nat.add_assoc] using this
  · have := hc (i * 2 + 1) _ ((pcs_get L i 1 hi' (by omega)).trans rfl); simpa [Nat.add_assoc] using this
def FewInv (w wr : World) (k m : Nat) (L : List PT) (v t : Value) : Prop := ∃ i : Nat, t = .int .i64 (i : Int) ∧ i ≤ L.length ∧ i ≤ k ∧ OP wr w.heap.size v (fewP i m L) ∧ Grow w wr
theorem measF {M k : Nat} (h : k < M) : M - (intOf (.int .i64 ((k : Int) + 1))).toNat < M - (intOf (.int .i64 (k : Int))).toNat := by simp [intOf]; omega
theorem measFW {M k : Nat} (h : k < M) (e : wrap64 ((k : Int) + 1) = (k : Int) + 1) : M - (intOf (.int .i64 (wrap64 ((k : Int) + 1)))).toNat < M - (intOf (.int .i64 (k : Int))).toNat := by rw [e]; exact measF h

end Go.Proofs.Ytlinlmimakealaa

namespace Go.Proofs.Ytlinlmimakealaa
open Go.RowKit

theorem tmod2 {p : Int} (h : ¬ p < 0) : (Int.tmod p 2 == 1) = oddP p := by
  rw [Int.tmod_eq_emod_of_nonneg (by omega)]
  unfold oddP
  rw [decide_eq_false h]
  have : p % 2 = 0 ∨ p % 2 = 1 := by omega
  rcases this with e | e <;> rw [e] <;> rfl
theorem tmod2n {p : Int} (h : p < 0) : (Int.tmod (-(p + 1)) 2 == 1) = oddP p := by
  rw [Int.tmod_eq_emod_of_nonneg (by omega)]
  unfold oddP
  rw [decide_eq_true h]
  have : p % 2 = 0 ∨ p % 2 = 1 := by omega
  rcases this with e | e
  · rw [e, show -(p + 1) % 2 = 1 by omega]; rfl
  · rw [e, show -(p + 1) % 2 = 0 by omega]; rfl
/-- The bytes before j as they last, the others as they are seen. -/
def backL (S T : List UInt8) (j : Nat) : List UInt8 := (List.range S.length).map fun i => if i < j then T.getD i 0 else S.getD i 0
theorem backL_length (S T : List UInt8) (j : Nat) : (backL S T j).length = S.length := by simp [backL]
theorem backL_get (S T : List UInt8) (j i : Nat) (hi : i < S.length) : (backL S T j).getD i 0 = if i < j then T.getD i 0 else S.getD i 0 := by simp [backL, List.getD_eq_getElem?_getD, hi]
theorem backL_zero (S T : List UInt8) : backL S T 0 = S := ext_getD (backL_length ..) fun i hi => by rw [backL_length] at hi; rw [backL_get _ _ _ _ hi, if_neg (by omega)]
theorem backL_end (S T : List UInt8) (h : S.length = T.length) : backL S T S.length = T := ext_getD (by rw [backL_length, h]) fun i hi => by rw [backL_length] at hi; rw [backL_get _ _ _ _ hi, if_pos hi]
theorem backL_step (S T : List UInt8) (j : Nat) (hj : j < S.length) : (backL S T j).set j (T.getD j 0) = backL S T (j + 1) := by
  refine ext_getD (by rw [List.length_set, backL_length, backL_length]) fun i hi => ?_
  rw [List.length_set, backL_length] at hi
  rw [backL_get _ _ _ _ hi, List.getD_eq_getElem?_getD]
  by_cases e : i = j
  · subst e; rw [List.getElem?_set_self (by rw [backL_length]; exact hj), if_pos (by omega)]; rfl
  · rw [List.getElem?_set_ne (Ne.symm e), ← List.getD_eq_getElem?_getD, backL_get _ _ _ _ hi]
    by_cases h2 : i < j
    · rw [if_pos h2, if_pos (by omega)]
    · rw [if_neg h2, if_neg (by omega)]
def offA (A : List Bool) (k : Nat) : List Bool := (List.range A.length).map fun j => A.getD j false && decide (k ≤ j)
theorem offA_length (A : List Bool) (k : Nat) : (offA A k).length = A.length := by simp [offA]
theorem offA_get (A : List Bool) (k j : Nat) (hj : j < A.length) : (offA A k).getD j false = (A.getD j false && decide (k ≤ j)) := by simp [offA, List.getD_eq_getElem?_getD, hj]
theorem offA_step (A : List Bool) (k : Nat) (hk : k < A.length) : (offA A k).set k false = offA A (k + 1) := getD_ext (by simp [offA_length]) fun j hj => by
  rw [List.length_set, offA_length] at hj
  rw [getD_set _ _ _ _ (by rw [offA_length]; exact hk), offA_get _ _ _ hj, offA_get _ _ _ hj]
  by_cases e : j = k
  · subst e; rw [if_pos rfl, decide_eq_false (by omega)]; simp
  · rw [if_neg e]; congr 1; simp; omega
theorem offA_zero (A : List Bool) : offA A 0 = A := geA_zero A
theorem offA_end (A : List Bool) : offA A A.length = List.replicate A.length false := geA_end A

def RCrashInv (w wr : World) (x : MB) (N : Nat) (S T : List UInt8) (pk : List Int) (t : Value) : Prop := ∃ (i : Nat) (A' : List Bool), t = .int .i64 (i : Int) ∧ i ≤ (dirtyL S T N).length ∧ RM wr x N S (mixL S T (crashB (dirtyL S T N) pk i)) A' ∧ Turn x.F w wr
def RBackInv (w wr : World) (x : MB) (N : Nat) (S T : List UInt8) (A : List Bool) (t : Value) : Prop := ∃ j : Nat, t = .int .i64 (j : Int) ∧ j ≤ 8 * N ∧ RM wr x N (backL S T j) T A ∧ Turn x.F w wr
def ROffInv (w wr : World) (x : MB) (N : Nat) (S T : List UInt8) (A : List Bool) (t : Value) : Prop := ∃ k : Nat, t = .int .i64 (k : Int) ∧ k ≤ N ∧ RM wr x N S T (offA A k) ∧ Turn x.F w wr

set_option maxHeartbeats 4000000 in
set_option maxRecDepth 8000 in
theorem rm_crash {w : World} {x : MB} {N : Nat} {S T : List UInt8} {A : List Bool} (h : RM w x N S T A) {B : Option Addr} {m c : Nat} {pk : List Int} (hs : RI w B m pk) (hB : 0 < m → ∀ p, B = some p → ¬ x.F p.block) (hpk : ∀ p ∈ pk, -9223372036854775808 ≤ p ∧ p ≤ 9223372036854775807) :
    Calls Try.prog 50 #[.pointer (some ⟨x.p, 0, none⟩), .slice B m c] w fun e w' => e = .returned (.tuple #[]) ∧ RM w' x N (mixL S T (crashB (dirtyL S T N) pk (dirtyL S T N).length)) (mixL S T (crashB (dirtyL S T N) pk (dirtyL S T N).length)) (List.replicate N false) ∧ Turn x.F w w' := by
  have HB := Lib.hid h.bound
  have HLT := Lib.hid h.lt
  have HLS := Lib.hid h.lenS
  have HLTT := Lib.hid h.lenT
  have H := Lib.hid h
  have HS := Lib.hid hs
  have HBF := Lib.hid hB
  have HPL := Lib.hid hs.1
  have HPK := Lib.hid hpk
  clear h hs hB hpk
  go_enter Try.func50, Try.ntmps50
  go_wp2_with fail
  refine (rm_dirty H.out).mono ?_
  rintro e w1 ⟨v, rfl, ho, g1⟩
  obtain ⟨D, d, rfl, hd, hR, hDF⟩ := ho.far
  have HDF := Lib.hid (show 0 < (dirtyL S T N).length → ∀ p, D = some p → ¬ x.F p.block from fun _ p hp q => by have := hDF p hp; have := HLT.out _ q; omega)
  have H1 := Lib.hid (H.out.keep g1)
  have HS1 := Lib.hid (HS.out.keep g1)
  have G1 := Lib.hid g1
  obtain ⟨ld, hld⟩ : ∃ ld, (dirtyL S T N).length = ld := ⟨_, rfl⟩
  have HLD := Lib.hid hld
  have HLN := Lib.hid (show ld ≤ N by rw [← hld]; exact dirtyL_length S T N)
  obtain ⟨T1, hT1⟩ : ∃ T1, T1 = mixL S T (crashB (dirtyL S T N) pk (dirtyL S T N).length) := ⟨_, rfl⟩
  have HT1 := Lib.hid hT1
  rw [hld] at hR hd HDF ⊢
  have HR := Lib.hid hR
  clear ho hR hDF hld g1 hT1
  go_upto_block 0 with fail
  go_cut [5, 6] (fun i n wx => (∃ A', RM wx x N S T1 A') ∧ Turn x.F w1 wx)
  case first =>
    go_wp2_with fail
    go_loopw [5, 6] (fun t _ wr => RCrashInv w1 wr x N S T pk t) (fun t _ _ => ld - (intOf t).toNat)
    case atStart => exact ⟨0, A, rfl, Nat.zero_le _, by rw [mixL_none S T (B := crashB (dirtyL S T N) pk 0) (fun k => rfl)]; exact H1.out, Turn.refl _ _⟩
    case round =>
      obtain ⟨i, A', rfl, hi, hP, ht⟩ := hrel
      rw [HLD.out] at hi
      by_cases hlt : i < ld
      · by_cases hip : i < m
        · obtain ⟨b, o, z, hz, rfl, hb, cz⟩ := (HR.out.turn ht HDF.out).at_ hlt
          obtain ⟨k, rfl, hkN, -⟩ := dirtyL_get hz
          obtain ⟨b2, o2, p, hp, rfl, hb2, cp⟩ := (HS1.out.turn ht HBF.out).at_ hip
          have hgp : pk.getD i 0 = p := by rw [List.getD_eq_getElem?_getD, hp]; rfl
          have hbp := HPK.out p (List.mem_of_getElem? hp)
          have HZ := Lib.hid hz
          have HGP := Lib.hid hgp
          have e5 := wrapS hlt (Nat.le_trans HLN.out (Nat.le_trans HB.out.2.2 (by decide)))
          have HP := Lib.hid hP
          have hil : i < pk.length := by rw [HPL.out]; exact hip
          have HIL := Lib.hid hil
          have z1 : decide (i < m) = true := decide_eq_true hip
          have z2 : decide (i < ld) = true := decide_eq_true hlt
          clear hP hz hb hp hgp hb2 hil
          by_cases hneg : p < 0
          · have w1' : wrap64 (p + 1) = p + 1 := IntWalk.wrap64_in _ (by omega)
            have w2' : wrap64 (-(p + 1)) = -(p + 1) := IntWalk.wrap64_in _ (by clear w1'; omega)
            have z3 : decide (p < 0) = true := decide_eq_true hneg
            have hod := tmod2n hneg
            rw [Int.neg_tmod] at hod
            clear hbp hneg
            cases hq : oddP p with
            | true =>
              rw [hq] at hod
              have HQ := Lib.hid (show mixL S T (crashB (dirtyL S T N) pk (i + 1)) = keepN S (mixL S T (crashB (dirtyL S T N) pk i)) (8 * k) 8 by rw [mixL_keep, crashB_go HZ.out HIL.out (by rw [HGP.out]; exact hq)])
              clear hq
              go_wp2_with fail
              refine (rm_keep HP.out k hkN).mono ?_
              rintro e w4 ⟨rfl, hP4, t4⟩
              have X : RCrashInv w1 w4 x N S T pk (.int .i64 ((i : Int) + 1)) := ⟨i + 1, _, by simp, by rw [HLD.out]; exact hlt, by rw [HQ.out]; exact hP4, ht.and t4⟩
              clear hP4 t4
              go_wp2_with fail
              go_roundw
              case rel => (try rw [e5]); first | exact X | ((repeat apply Exists.intro); exact X) | ((repeat apply Exists.intro); refine ⟨X, ?_⟩; rfl)
              case measure => first | exact meas hlt | exact measW hlt e5
            | false =>
              rw [hq] at hod
              have X : RCrashInv w1 wr x N S T pk (.int .i64 ((i : Int) + 1)) := ⟨i + 1, A', by simp, by rw [HLD.out]; exact hlt, by rw [crashB_skip (i := i) (fun _ => by rw [HGP.out]; exact hq)]; exact HP.out, ht⟩
              clear hq
              go_wp2_with fail
              go_roundw
              case rel => (try rw [e5]); first | exact X | ((repeat apply Exists.intro); exact X) | ((repeat apply Exists.intro); refine ⟨X, ?_⟩; rfl)
              case measure => first | exact meas hlt | exact measW hlt e5
          · have z3 : decide (p < 0) = false := decide_eq_false hneg
            have hod := tmod2 hneg
            clear hbp hneg
            cases hq : oddP p with
            | true =>
              rw [hq] at hod
              have HQ := Lib.hid (show mixL S T (crashB (dirtyL S T N) pk (i + 1)) = keepN S (mixL S T (crashB (dirtyL S T N) pk i)) (8 * k) 8 by rw [mixL_keep, crashB_go HZ.out HIL.out (by rw [HGP.out]; exact hq)])
              clear hq
              go_wp2_with fail
              refine (rm_keep HP.out k hkN).mono ?_
              rintro e w4 ⟨rfl, hP4, t4⟩
              have X : RCrashInv w1 w4 x N S T pk (.int .i64 ((i : Int) + 1)) := ⟨i + 1, _, by simp, by rw [HLD.out]; exact hlt, by rw [HQ.out]; exact hP4, ht.and t4⟩
              clear hP4 t4
              go_wp2_with fail
              go_roundw
              case rel => (try rw [e5]); first | exact X | ((repeat apply Exists.intro); exact X) | ((repeat apply Exists.intro); refine ⟨X, ?_⟩; rfl)
              case measure => first | exact meas hlt | exact measW hlt e5
            | false =>
              rw [hq] at hod
              have X : RCrashInv w1 wr x N S T pk (.int .i64 ((i : Int) + 1)) := ⟨i + 1, A', by simp, by rw [HLD.out]; exact hlt, by rw [crashB_skip (i := i) (fun _ => by rw [HGP.out]; exact hq)]; exact HP.out, ht⟩
              clear hq
              go_wp2_with fail
              go_roundw
              case rel => (try rw [e5]); first | exact X | ((repeat apply Exists.intro); exact X) | ((repeat apply Exists.intro); refine ⟨X, ?_⟩; rfl)
              case measure => first | exact meas hlt | exact measW hlt e5
        · have z1 : decide (i < m) = false := decide_eq_false hip
          have z2 : decide (i < ld) = true := decide_eq_true hlt
          have HF := Lib.hid (show RM wr x N S T1 A' by
            rw [HT1.out, HLD.out, show ld = i + (ld - i) by omega, crashB_after (by rw [HPL.out]; omega)]
            exact hP)
          clear hP
          go_wp2_with fail
          go_meet
          exact ⟨⟨_, HF.out⟩, ht⟩
      · have z2 : decide (i < ld) = false := decide_eq_false hlt
        have HF := Lib.hid (show RM wr x N S T1 A' by rw [HT1.out, HLD.out, show ld = i by omega]; exact hP)
        clear hP
        go_wp2_with fail
        go_meet
        exact ⟨⟨_, HF.out⟩, ht⟩
  case rest =>
    obtain ⟨⟨A1, hP⟩, ht⟩ := hcut
    have HP := Lib.hid hP
    have HT := Lib.hid ht
    have HL1 := Lib.hid hP.lenT
    have HLA1 := Lib.hid hP.lenA
    clear hP ht
    go_wp2_with fail
    go_loopw [7] (fun t wr => RBackInv w1 wr x N S T1 A1 t) (fun t _ => 8 * N - (intOf t).toNat)
    case atStart => exact ⟨0, rfl, Nat.zero_le _, by rw [backL_zero]; exact HP.out, HT.out⟩
    case round =>
      obtain ⟨j, rfl, hj, hP2, ht2⟩ := hrel
      obtain ⟨L, cs, ct, ca, HLL, hcs, hct, -, c0, c1, -, l0⟩ := hP2.look
      by_cases hlt : j < 8 * N
      · have hiL : j < L := by rw [HLL.out]; exact hlt
        obtain ⟨s0, f0⟩ := hP2.seenAt hlt
        obtain ⟨t0, -⟩ := hP2.lastAt hlt
        obtain ⟨u, hu⟩ : ∃ u, u = T1.getD j 0 := ⟨_, rfl⟩
        rw [← hu] at t0
        have e5 := wrapS hlt (Nat.mul_le_mul_left 8 HB.out.2.2)
        obtain ⟨hP3, t3⟩ := hP2.seenSet j u
        rw [hu, backL_step _ _ _ (by rw [HLS.out]; exact hlt), ← hu] at hP3
        have X : RBackInv w1 (wr.setCell ⟨x.gs, j, none⟩ (.int .u8 (u.toNat : Int))).drew x N S T1 A1 (.int .i64 ((j : Int) + 1)) := ⟨j + 1, by simp, hlt, hP3.keep ((Grow.refl _).drew), (ht2.and t3).andGrow ((Grow.refl _).drew)⟩
        clear hP2 ht2 hu hP3 t3
        go_wp2_with fail
        go_region
        go_wp2_with fail
        go_roundw
        case rel => (try rw [e5]); first | exact X | ((repeat apply Exists.intro); exact X) | ((repeat apply Exists.intro); refine ⟨X, ?_⟩; rfl)
        case measure => first | exact meas hlt | exact measW hlt e5
      · have hiL : ¬ j < L := by rw [HLL.out]; exact hlt
        have HP3 := Lib.hid (show RM wr x N T1 T1 A1 by rw [show j = S.length by rw [HLS.out]; omega, backL_end _ _ (by rw [HLS.out, HL1.out])] at hP2; exact hP2)
        have HT3 := Lib.hid ht2
        clear hP2 ht2
        go_wp2_with fail
        go_loopw [8] (fun t wr => ROffInv w1 wr x N T1 T1 A1 t) (fun t _ => N - (intOf t).toNat)
        case atStart => exact ⟨0, rfl, Nat.zero_le _, by rw [offA_zero]; exact HP3.out, HT3.out⟩
        case round =>
          obtain ⟨k, rfl, hk, hP4, ht4⟩ := hrel
          obtain ⟨L4, cs4, ct4, ca4, HLL4, -, -, hca4, -, -, d2, l4⟩ := hP4.look
          by_cases hlt4 : k < N
          · obtain ⟨a0, f0⟩ := hP4.awayAt hlt4
            have e5 := wrapS hlt4 (Nat.le_trans HB.out.2.2 (by decide))
            obtain ⟨hP5, t5⟩ := hP4.awaySet k false
            rw [offA_step _ _ (by rw [HLA1.out]; exact hlt4)] at hP5
            have X : ROffInv w1 (wr.setCell ⟨x.b, k, none⟩ (.bool false)) x N T1 T1 A1 (.int .i64 ((k : Int) + 1)) := ⟨k + 1, by simp, hlt4, hP5, ht4.and t5⟩
            clear hP4 ht4 hP5 t5 c0 c1 l0
            go_wp2_with fail
            go_roundw
            case rel => (try rw [e5]); first | exact X | ((repeat apply Exists.intro); exact X) | ((repeat apply Exists.intro); refine ⟨X, ?_⟩; rfl)
            case measure => first | exact meas hlt4 | exact measW hlt4 e5
          · obtain rfl : k = N := by omega
            have HF := Lib.hid (show RM wr x k T1 T1 (List.replicate k false) by
              have h2 := offA_end A1
              rw [HLA1.out] at h2
              rw [← h2]
              exact hP4)
            clear hP4 c0 c1 l0
            go_wp2_with fail
            go_end0
            exact ⟨rfl, by rw [← HT1.out]; exact HF.out, (Turn.grow G1.out x.F).and ht4⟩
end Go.Proofs.Ytlinlmimakealaa

namespace Go.Proofs.Ytlinlmimakealaa
open Go.RowKit

/-- A deed's parts, as they are read. -/
structure DA (w : World) (base : Nat) (P : Option Addr) (np : Nat) (L : List PT) (a : Int) (B : Option Addr) (m c : Nat) (bs : List UInt8) (Q : Option Addr) (q dq : Nat) (pk : List Int) : Prop where
  pats : RQ w P np L
  wide : ∀ p ∈ L, p.wide
  bytes : RB w w.heap.size B bs
  len : bs.length = m
  cap : m ≤ c
  picks : RI w Q q pk
  pcap : q ≤ dq
  pw : ∀ p ∈ pk, -9223372036854775808 ≤ p ∧ p ≤ 9223372036854775807
  ab : 0 < m → ∀ p, B = some p → p.block < base
  aq : 0 < q → ∀ p, Q = some p → p.block < base
/-- What a deed leaves. -/
def Done8 (w w' : World) (base pb l d px : Nat) (y : MB) : Prop := ∃ (x' : MB) (s' : MS), x'.p = px ∧ PX w' base pb l d x' y s' ∧ Below base w w' ∧ w.heap.size ≤ w'.heap.size
/-- The same, with the state named. -/
def Done8S (w w' : World) (base pb l d px : Nat) (y : MB) (s' : MS) : Prop := ∃ x' : MB, x'.p = px ∧ PX w' base pb l d x' y s' ∧ Below base w w' ∧ w.heap.size ≤ w'.heap.size
theorem Done8S.done {w w' : World} {base pb l d px : Nat} {y : MB} {s' : MS} (h : Done8S w w' base pb l d px y s') : Done8 w w' base pb l d px y := by
  obtain ⟨x', h1, h2, h3, h4⟩ := h
  exact ⟨x', s', h1, h2, h3, h4⟩
theorem DA.keep {w w' : World} {base np m c q dq : Nat} {P B Q : Option Addr} {L : List PT} {a : Int} {bs : List UInt8} {pk : List Int} (h : DA w base P np L a B m c bs Q q dq pk) (g : Grow w w') : DA w' base P np L a B m c bs Q q dq pk :=
  ⟨h.pats.keep g, h.wide, (h.bytes.below g).more g.size, h.len, h.cap, h.picks.keep g, h.pcap, h.pw, h.ab, h.aq⟩
/-- The bytes and the picks, cut. -/
structure DC (w : World) (base : Nat) (B : Option Addr) (m : Nat) (bs : List UInt8) (Q : Option Addr) (q : Nat) (pk : List Int) : Prop where
  bytes : Sl w B m bs
  picks : RI w Q q pk
  pw : ∀ p ∈ pk, -9223372036854775808 ≤ p ∧ p ≤ 9223372036854775807
  ab : 0 < m → ∀ p, B = some p → p.block < base
  aq : 0 < q → ∀ p, Q = some p → p.block < base
theorem RI.take {w : World} {A : Option Addr} {n k : Nat} {K : List Int} (h : RI w A n K) (hk : k ≤ n) : RI w A k (K.take k) := by
  obtain ⟨h1, h2⟩ := h
  refine ⟨by rw [List.length_take]; omega, ?_⟩
  have := Rd.take h2 hk
  rw [Nat.mul_one] at this
  simpa [ics, List.map_take] using this
theorem DA.cut {w : World} {base np m c q dq : Nat} {P B Q : Option Addr} {L : List PT} {a : Int} {bs : List UInt8} {pk : List Int} (h : DA w base P np L a B m c bs Q q dq pk) : DC w base B (min m 60) (bs.take (min m 60)) Q (min q 200) (pk.take (min q 200)) := by
  obtain ⟨h1, h2, h3, h4, h5, h6, h7, h8, h9, h10⟩ := h
  refine ⟨Sl.ofTake h3 (by omega) (by omega), h6.take (by omega), fun p hp => h8 p (List.mem_of_mem_take hp), fun h0 => h9 (by omega), fun h0 => h10 (by omega)⟩
theorem DC.keep {w w' : World} {base m q : Nat} {B Q : Option Addr} {bs : List UInt8} {pk : List Int} (h : DC w base B m bs Q q pk) (g : Grow w w') : DC w' base B m bs Q q pk := ⟨h.bytes.keep g, h.picks.keep g, h.pw, h.ab, h.aq⟩
section
variable {w w1 w2 : World} {base pb l d : Nat} {x y : MB} {s s' : MS}
theorem PX.outB (h : PX w base pb l d x y s) {m : Nat} {B : Option Addr} (hB : 0 < m → ∀ p, B = some p → p.block < base) : (0 < m → ∀ p, B = some p → ¬ x.F p.block) ∧ (0 < m → ∀ p, B = some p → ¬ y.F p.block) :=
  ⟨fun h0 p hp q => by have := hB h0 p hp; have := h.xb _ q; omega, fun h0 p hp q => by have := hB h0 p hp; have := h.yb _ q; omega⟩
theorem PX.done (h : PX w base pb l d x y s) (hb : base ≤ w.heap.size) (h1 : LG w1 l x s') (t1 : Turn x.F w w1) (h2 : RL w2 d y s') (t2 : Turn y.F w1 w2) {W : World} (g : Grow W w) (hW : base ≤ W.heap.size) : Done8 W w2 base pb l d x.p y :=
  ⟨x, s', rfl, h.both h1 t1 h2 t2, (g.mono hW).trans (h.low hb t1 t2), Nat.le_trans g.size (Nat.le_trans t1.size t2.size)⟩
theorem PX.doneS (h : PX w base pb l d x y s) (hb : base ≤ w.heap.size) (h1 : LG w1 l x s') (t1 : Turn x.F w w1) (h2 : RL w2 d y s') (t2 : Turn y.F w1 w2) {W : World} (g : Grow W w) (hW : base ≤ W.heap.size) : Done8S W w2 base pb l d x.p y s' :=
  ⟨x, rfl, h.both h1 t1 h2 t2, (g.mono hW).trans (h.low hb t1 t2), Nat.le_trans g.size (Nat.le_trans t1.size t2.size)⟩
end

theorem PX.crash {w w1 w2 W : World} {base pb l d g' : Nat} {x y : MB} {s : MS} {S T : List UInt8} {A : List Bool} (h : PX w base pb l d x y s) (hb : base ≤ w.heap.size) (hg : w.heap.size ≤ g') (h1 : PM w1 ⟨x.p, g', x.gt, x.b⟩ 128 S T A) (t1 : Turn x.F w w1) (h2 : RM w2 y 128 S T A) (t2 : Turn y.F w1 w2) (g : Grow W w) (hW : base ≤ W.heap.size) : Done8 W w2 base pb l d x.p y := by
  have hl := h.lg.2.1.1
  have hd := h.rl.2.1.1
  have hp := h.blk.1
  have hF : ∀ k, (⟨x.p, g', x.gt, x.b⟩ : MB).F k → x.F k ∨ k = g' := by
    rintro k (q | q | q | q)
    · exact .inl (.inl q)
    · exact .inr q
    · exact .inl (.inr (.inr (.inl q)))
    · exact .inl (.inr (.inr (.inr q)))
  have hy := h.rl.1.lt
  refine ⟨⟨x.p, g', x.gt, x.b⟩, ⟨S, T, A⟩, rfl, ⟨⟨h1.turn t2 fun k q q2 => ?_, (h.lg.2.1.turn t1 h.lg.2.2).turn t2 h.yl, fun q => ?_⟩, ⟨h2, (h.rl.2.1.turn t1 h.xd).turn t2 h.rl.2.2, h.rl.2.2⟩, fun k q q2 => ?_, fun q => ?_, h.yl, (h.blk.turn t1 h.xp).turn t2 h.yp, fun q => ?_, h.yp, fun k q => ?_, h.yb⟩, (g.mono hW).trans (h.low hb t1 t2), Nat.le_trans g.size (Nat.le_trans t1.size t2.size)⟩
  · rcases hF _ q2 with q3 | q3
    · exact h.ap k q3 q
    · have := hy k q; omega
  · rcases hF _ q with q3 | q3
    · exact h.lg.2.2 q3
    · omega
  · rcases hF _ q with q3 | q3
    · exact h.ap k q3 q2
    · have := hy k q2; omega
  · rcases hF _ q with q3 | q3
    · exact h.xd q3
    · omega
  · rcases hF _ q with q3 | q3
    · exact h.xp q3
    · omega
  · rcases hF _ q with q3 | q3
    · exact h.xb k q3
    · omega
end Go.Proofs.Ytlinlmimakealaa
