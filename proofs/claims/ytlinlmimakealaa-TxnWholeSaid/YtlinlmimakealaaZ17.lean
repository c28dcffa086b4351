/- commonsref03: Crash. commonslaw08.does: what it leaves. The program's memory and log of a pair, verb by verb. A transaction, the program's (TX) and the document's (RX): what lies where. No statement of the seat is proved here. -/
import Derived.Test.YtlinlmimakealaaZ07
import Derived.Deep.CutBlock
import Derived.Test.YtlinlmimakealaaZ16
import Derived.Deep.DeepCutAuto
import Derived.Deep.RegionHeld3
import Derived.Test.YtlinlmimakealaaZ14
import Derived.Test.YtlinlmimakealaaZ15
namespace Go.Proofs.Ytlinlmimakealaa
open Go.RowKit

theorem tmod2 {p : Int} (h : ¬ p < 0) : (Int.tmod p 2 == 1) = oddP p := by
  rw [Int.tmod_eq_emod_of_nonneg (by omega)]
  unfold oddP
  rw [decide_eq_false h]
  have : p % 2 = 0 ∨ p % 2 = 1 := by omega
  rcases this with e | e <;> rw [e] <;> rfl
theorem tmod2n {p : Int} (h : p < 0) : (Int.tmod (-(p + 1)) 2 == 1) = oddP p := by
  rw [Int.tmod_eq_emod_of_nonneg (by omega)]
  unfold oddP
  rw [decide_eq_true h]
  have : p % 2 = 0 ∨ p % 2 = 1 := by omega
  rcases this with e | e
  · rw [e, show -(p + 1) % 2 = 1 by omega]; rfl
  · rw [e, show -(p + 1) % 2 = 0 by omega]; rfl
/-- The bytes before j as they last, the others as they are seen. -/
def backL (S T : List UInt8) (j : Nat) : List UInt8 := (List.range S.length).map fun i => if i < j then T.getD i 0 else S.getD i 0
theorem backL_length (S T : List UInt8) (j : Nat) : (backL S T j).length = S.length := by simp [backL]
theorem backL_get (S T : List UInt8) (j i : Nat) (hi : i < S.length) : (backL S T j).getD i 0 = if i < j then T.getD i 0 else S.getD i 0 := by simp [backL, List.getD_eq_getElem?_getD, hi]
theorem backL_zero (S T : List UInt8) : backL S T 0 = S := ext_getD (backL_length ..) fun i hi => by rw [backL_length] at hi; rw [backL_get _ _ _ _ hi, if_neg (by omega)]
theorem backL_end (S T : List UInt8) (h : S.length = T.length) : backL S T S.length = T := ext_getD (by rw [backL_length, h]) fun i hi => by rw [backL_length] at hi; rw [backL_get _ _ _ _ hi, if_pos hi]
theorem backL_step (S T : List UInt8) (j : Nat) (hj : j < S.length) : (backL S T j).set j (T.getD j 0) = backL S T (j + 1) := by
  refine ext_getD (by rw [List.length_set, backL_length, backL_length]) fun i hi => ?_
  rw [List.length_set, backL_length] at hi
  rw [backL_get _ _ _ _ hi, List.getD_eq_getElem?_getD]
  by_cases e : i = j
  · subst e; rw [List.getElem?_set_self (by rw [backL_length]; exact hj), if_pos (by omega)]; rfl
  · rw [List.getElem?_set_ne (Ne.symm e), ← List.getD_eq_getElem?_getD, backL_get _ _ _ _ hi]
    by_cases h2 : i < j
    · rw [if_pos h2, if_pos (by omega)]
    · rw [if_neg h2, if_neg (by omega)]
def offA (A : List Bool) (k : Nat) : List Bool := (List.range A.length).map fun j => A.getD j false && decide (k ≤ j)
theorem offA_length (A : List Bool) (k : Nat) : (offA A k).length = A.length := by simp [offA]
theorem offA_get (A : List Bool) (k j : Nat) (hj : j < A.length) : (offA A k).getD j false = (A.getD j false && decide (k ≤ j)) := by simp [offA, List.getD_eq_getElem?_getD, hj]
theorem offA_step (A : List Bool) (k : Nat) (hk : k < A.length) : (offA A k).set k false = offA A (k + 1) := getD_ext (by simp [offA_length]) fun j hj => by
  rw [List.length_set, offA_length] at hj
  rw [getD_set _ _ _ _ (by rw [offA_length]; exact hk), offA_get _ _ _ hj, offA_get _ _ _ hj]
  by_cases e : j = k
  · subst e; rw [if_pos rfl, decide_eq_false (by omega)]; simp
  · rw [if_neg e]; congr 1; simp; omega
theorem offA_zero (A : List Bool) : offA A 0 = A := geA_zero A
theorem offA_end (A : List Bool) : offA A A.length = List.replicate A.length false := geA_end A

def RCrashInv (w wr : World) (x : MB) (N : Nat) (S T : List UInt8) (pk : List Int) (t : Value) : Prop := ∃ (i : Nat) (A' : List Bool), t = .int .i64 (i : Int) ∧ i ≤ (dirtyL S T N).length ∧ RM wr x N S (mixL S T (crashB (dirtyL S T N) pk i)) A' ∧ Turn x.F w wr
def RBackInv (w wr : World) (x : MB) (N : Nat) (S T : List UInt8) (A : List Bool) (t : Value) : Prop := ∃ j : Nat, t = .int .i64 (j : Int) ∧ j ≤ 8 * N ∧ RM wr x N (backL S T j) T A ∧ Turn x.F w wr
def ROffInv (w wr : World) (x : MB) (N : Nat) (S T : List UInt8) (A : List Bool) (t : Value) : Prop := ∃ k : Nat, t = .int .i64 (k : Int) ∧ k ≤ N ∧ RM wr x N S T (offA A k) ∧ Turn x.F w wr

set_option maxHeartbeats 4000000 in
set_option maxRecDepth 8000 in
theorem rm_crash {w : World} {x : MB} {N : Nat} {S T : List UInt8} {A : List Bool} (h : RM w x N S T A) {B : Option Addr} {m c : Nat} {pk : List Int} (hs : RI w B m pk) (hB : 0 < m → ∀ p, B = some p → ¬ x.F p.block) (hpk : ∀ p ∈ pk, -9223372036854775808 ≤ p ∧ p ≤ 9223372036854775807) :
    Calls Try.prog 50 #[.pointer (some ⟨x.p, 0, none⟩), .slice B m c] w fun e w' => e = .returned (.tuple #[]) ∧ RM w' x N (mixL S T (crashB (dirtyL S T N) pk (dirtyL S T N).length)) (mixL S T (crashB (dirtyL S T N) pk (dirtyL S T N).length)) (List.replicate N false) ∧ Turn x.F w w' := by
  have HB := Lib.hid h.bound
  have HLT := Lib.hid h.lt
  have HLS := Lib.hid h.lenS
  have HLTT := Lib.hid h.lenT
  have H := Lib.hid h
  have HS := Lib.hid hs
  have HBF := Lib.hid hB
  have HPL := Lib.hid hs.1
  have HPK := Lib.hid hpk
  clear h hs hB hpk
  go_enter Try.func50, Try.ntmps50
  go_wp2_with fail
  refine (rm_dirty H.out).mono ?_
  rintro e w1 ⟨v, rfl, ho, g1⟩
  obtain ⟨D, d, rfl, hd, hR, hDF⟩ := ho.far
  have HDF := Lib.hid (show 0 < (dirtyL S T N).length → ∀ p, D = some p → ¬ x.F p.block from fun _ p hp q => by have := hDF p hp; have := HLT.out _ q; omega)
  have H1 := Lib.hid (H.out.keep g1)
  have HS1 := Lib.hid (HS.out.keep g1)
  have G1 := Lib.hid g1
  obtain ⟨ld, hld⟩ : ∃ ld, (dirtyL S T N).length = ld := ⟨_, rfl⟩
  have HLD := Lib.hid hld
  have HLN := Lib.hid (show ld ≤ N by rw [← hld]; exact dirtyL_length S T N)
  obtain ⟨T1, hT1⟩ : ∃ T1, T1 = mixL S T (crashB (dirtyL S T N) pk (dirtyL S T N).length) := ⟨_, rfl⟩
  have HT1 := Lib.hid hT1
  rw [hld] at hR hd HDF ⊢
  have HR := Lib.hid hR
  clear ho hR hDF hld g1 hT1
  go_upto_block 0 with fail
  go_cut [5, 6] (fun i n wx => (∃ A', RM wx x N S T1 A') ∧ Turn x.F w1 wx)
  case first =>
    go_wp2_with fail
    go_loopw [5, 6] (fun t _ wr => RCrashInv w1 wr x N S T pk t) (fun t _ _ => ld - (intOf t).toNat)
    case atStart => exact ⟨0, A, rfl, Nat.zero_le _, by rw [mixL_none S T (B := crashB (dirtyL S T N) pk 0) (fun k => rfl)]; exact H1.out, Turn.refl _ _⟩
    case round =>
      obtain ⟨i, A', rfl, hi, hP, ht⟩ := hrel
      rw [HLD.out] at hi
      by_cases hlt : i < ld
      · by_cases hip : i < m
        · obtain ⟨b, o, z, hz, rfl, hb, cz⟩ := (HR.out.turn ht HDF.out).at_ hlt
          obtain ⟨k, rfl, hkN, -⟩ := dirtyL_get hz
          obtain ⟨b2, o2, p, hp, rfl, hb2, cp⟩ := (HS1.out.turn ht HBF.out).at_ hip
          have hgp : pk.getD i 0 = p := by rw [List.getD_eq_getElem?_getD, hp]; rfl
          have hbp := HPK.out p (List.mem_of_getElem? hp)
          have HZ := Lib.hid hz
          have HGP := Lib.hid hgp
          have e5 := wrapS hlt (Nat.le_trans HLN.out (Nat.le_trans HB.out.2.2 (by decide)))
          have HP := Lib.hid hP
          have hil : i < pk.length := by rw [HPL.out]; exact hip
          have HIL := Lib.hid hil
          have z1 : decide (i < m) = true := decide_eq_true hip
          have z2 : decide (i < ld) = true := decide_eq_true hlt
          clear hP hz hb hp hgp hb2 hil
          by_cases hneg : p < 0
          · have w1' : wrap64 (p + 1) = p + 1 := IntWalk.wrap64_in _ (by omega)
            have w2' : wrap64 (-(p + 1)) = -(p + 1) := IntWalk.wrap64_in _ (by clear w1'; omega)
            have z3 : decide (p < 0) = true := decide_eq_true hneg
            have hod := tmod2n hneg
            rw [Int.neg_tmod] at hod
            clear hbp hneg
            cases hq : oddP p with
            | true =>
              rw [hq] at hod
              have HQ := Lib.hid (show mixL S T (crashB (dirtyL S T N) pk (i + 1)) = keepN S (mixL S T (crashB (dirtyL S T N) pk i)) (8 * k) 8 by rw [mixL_keep, crashB_go HZ.out HIL.out (by rw [HGP.out]; exact hq)])
              clear hq
              go_wp2_with fail
              refine (rm_keep HP.out k hkN).mono ?_
              rintro e w4 ⟨rfl, hP4, t4⟩
              have X : RCrashInv w1 w4 x N S T pk (.int .i64 ((i : Int) + 1)) := ⟨i + 1, _, by simp, by rw [HLD.out]; exact hlt, by rw [HQ.out]; exact hP4, ht.and t4⟩
              clear hP4 t4
              go_wp2_with fail
              go_roundw
              case rel => (try rw [e5]); first | exact X | ((repeat apply Exists.intro); exact X) | ((repeat apply Exists.intro); refine ⟨X, ?_⟩; rfl)
              case measure => first | exact meas hlt | exact measW hlt e5
            | false =>
              rw [hq] at hod
              have X : RCrashInv w1 wr x N S T pk (.int .i64 ((i : Int) + 1)) := ⟨i + 1, A', by simp, by rw [HLD.out]; exact hlt, by rw [crashB_skip (i := i) (fun _ => by rw [HGP.out]; exact hq)]; exact HP.out, ht⟩
              clear hq
              go_wp2_with fail
              go_roundw
              case rel => (try rw [e5]); first | exact X | ((repeat apply Exists.intro); exact X) | ((repeat apply Exists.intro); refine ⟨X, ?_⟩; rfl)
              case measure => first | exact meas hlt | exact measW hlt e5
          · have z3 : decide (p < 0) = false := decide_eq_false hneg
            have hod := tmod2 hneg
            clear hbp hneg
            cases hq : oddP p with
            | true =>
              rw [hq] at hod
              have HQ := Lib.hid (show mixL S T (crashB (dirtyL S T N) pk (i + 1)) = keepN S (mixL S T (crashB (dirtyL S T N) pk i)) (8 * k) 8 by rw [mixL_keep, crashB_go HZ.out HIL.out (by rw [HGP.out]; exact hq)])
              clear hq
              go_wp2_with fail
              refine (rm_keep HP.out k hkN).mono ?_
              rintro e w4 ⟨rfl, hP4, t4⟩
              have X : RCrashInv w1 w4 x N S T pk (.int .i64 ((i : Int) + 1)) := ⟨i + 1, _, by simp, by rw [HLD.out]; exact hlt, by rw [HQ.out]; exact hP4, ht.and t4⟩
              clear hP4 t4
              go_wp2_with fail
              go_roundw
              case rel => (try rw [e5]); first | exact X | ((repeat apply Exists.intro); exact X) | ((repeat apply Exists.intro); refine ⟨X, ?_⟩; rfl)
              case measure => first | exact meas hlt | exact measW hlt e5
            | false =>
              rw [hq] at hod
              have X : RCrashInv w1 wr x N S T pk (.int .i64 ((i : Int) + 1)) := ⟨i + 1, A', by simp, by rw [HLD.out]; exact hlt, by rw [crashB_skip (i := i) (fun _ => by rw [HGP.out]; exact hq)]; exact HP.out, ht⟩
              clear hq
              go_wp2_with fail
              go_roundw
              case rel => (try rw [e5]); first | exact X | ((repeat apply Exists.intro); exact X) | ((repeat apply Exists.intro); refine ⟨X, ?_⟩; rfl)
              case measure => first | exact meas hlt | exact measW hlt e5
        · have z1 : decide (i < m) = false := decide_eq_false hip
          have z2 : decide (i < ld) = true := decide_eq_true hlt
          have HF := Lib.hid (show RM wr x N S T1 A' by
            rw [HT1.out, HLD.out, show ld = i + (ld - i) by omega, crashB_after (by rw [HPL.out]; omega)]
            exact hP)
          clear hP
          go_wp2_with fail
          go_meet
          exact ⟨⟨_, HF.out⟩, ht⟩
      · have z2 : decide (i < ld) = false := decide_eq_false hlt
        have HF := Lib.hid (show RM wr x N S T1 A' by rw [HT1.out, HLD.out, show ld = i by omega]; exact hP)
        clear hP
        go_wp2_with fail
        go_meet
        exact ⟨⟨_, HF.out⟩, ht⟩
  case rest =>
    obtain ⟨⟨A1, hP⟩, ht⟩ := hcut
    have HP := Lib.hid hP
    have HT := Lib.hid ht
    have HL1 := Lib.hid hP.lenT
    have HLA1 := Lib.hid hP.lenA
    clear hP ht
    go_wp2_with fail
    go_loopw [7] (fun t wr => RBackInv w1 wr x N S T1 A1 t) (fun t _ => 8 * N - (intOf t).toNat)
    case atStart => exact ⟨0, rfl, Nat.zero_le _, by rw [backL_zero]; exact HP.out, HT.out⟩
    case round =>
      obtain ⟨j, rfl, hj, hP2, ht2⟩ := hrel
      obtain ⟨L, cs, ct, ca, HLL, hcs, hct, -, c0, c1, -, l0⟩ := hP2.look
      by_cases hlt : j < 8 * N
      · have hiL : j < L := by rw [HLL.out]; exact hlt
        obtain ⟨s0, f0⟩ := hP2.seenAt hlt
        obtain ⟨t0, -⟩ := hP2.lastAt hlt
        obtain ⟨u, hu⟩ : ∃ u, u = T1.getD j 0 := ⟨_, rfl⟩
        rw [← hu] at t0
        have e5 := wrapS hlt (Nat.mul_le_mul_left 8 HB.out.2.2)
        obtain ⟨hP3, t3⟩ := hP2.seenSet j u
        rw [hu, backL_step _ _ _ (by rw [HLS.out]; exact hlt), ← hu] at hP3
        have X : RBackInv w1 (wr.setCell ⟨x.gs, j, none⟩ (.int .u8 (u.toNat : Int))).drew x N S T1 A1 (.int .i64 ((j : Int) + 1)) := ⟨j + 1, by simp, hlt, hP3.keep ((Grow.refl _).drew), (ht2.and t3).andGrow ((Grow.refl _).drew)⟩
        clear hP2 ht2 hu hP3 t3
        go_wp2_with fail
        go_region
        go_wp2_with fail
        go_roundw
        case rel => (try rw [e5]); first | exact X | ((repeat apply Exists.intro); exact X) | ((repeat apply Exists.intro); refine ⟨X, ?_⟩; rfl)
        case measure => first | exact meas hlt | exact measW hlt e5
      · have hiL : ¬ j < L := by rw [HLL.out]; exact hlt
        have HP3 := Lib.hid (show RM wr x N T1 T1 A1 by rw [show j = S.length by rw [HLS.out]; omega, backL_end _ _ (by rw [HLS.out, HL1.out])] at hP2; exact hP2)
        have HT3 := Lib.hid ht2
        clear hP2 ht2
        go_wp2_with fail
        go_loopw [8] (fun t wr => ROffInv w1 wr x N T1 T1 A1 t) (fun t _ => N - (intOf t).toNat)
        case atStart => exact ⟨0, rfl, Nat.zero_le _, by rw [offA_zero]; exact HP3.out, HT3.out⟩
        case round =>
          obtain ⟨k, rfl, hk, hP4, ht4⟩ := hrel
          obtain ⟨L4, cs4, ct4, ca4, HLL4, -, -, hca4, -, -, d2, l4⟩ := hP4.look
          by_cases hlt4 : k < N
          · obtain ⟨a0, f0⟩ := hP4.awayAt hlt4
            have e5 := wrapS hlt4 (Nat.le_trans HB.out.2.2 (by decide))
            obtain ⟨hP5, t5⟩ := hP4.awaySet k false
            rw [offA_step _ _ (by rw [HLA1.out]; exact hlt4)] at hP5
            have X : ROffInv w1 (wr.setCell ⟨x.b, k, none⟩ (.bool false)) x N T1 T1 A1 (.int .i64 ((k : Int) + 1)) := ⟨k + 1, by simp, hlt4, hP5, ht4.and t5⟩
            clear hP4 ht4 hP5 t5 c0 c1 l0
            go_wp2_with fail
            go_roundw
            case rel => (try rw [e5]); first | exact X | ((repeat apply Exists.intro); exact X) | ((repeat apply Exists.intro); refine ⟨X, ?_⟩; rfl)
            case measure => first | exact meas hlt4 | exact measW hlt4 e5
          · obtain rfl : k = N := by omega
            have HF := Lib.hid (show RM wr x k T1 T1 (List.replicate k false) by
              have h2 := offA_end A1
              rw [HLA1.out] at h2
              rw [← h2]
              exact hP4)
            clear hP4 c0 c1 l0
            go_wp2_with fail
            go_end0
            exact ⟨rfl, by rw [← HT1.out]; exact HF.out, (Turn.grow G1.out x.F).and ht4⟩
end Go.Proofs.Ytlinlmimakealaa

namespace Go.Proofs.Ytlinlmimakealaa
open Go.RowKit

/-- A deed's parts, as they are read. -/
structure DA (w : World) (base : Nat) (P : Option Addr) (np : Nat) (L : List PT) (a : Int) (B : Option Addr) (m c : Nat) (bs : List UInt8) (Q : Option Addr) (q dq : Nat) (pk : List Int) : Prop where
  pats : RQ w P np L
  wide : ∀ p ∈ L, p.wide
  bytes : RB w w.heap.size B bs
  len : bs.length = m
  cap : m ≤ c
  picks : RI w Q q pk
  pcap : q ≤ dq
  pw : ∀ p ∈ pk, -9223372036854775808 ≤ p ∧ p ≤ 9223372036854775807
  ab : 0 < m → ∀ p, B = some p → p.block < base
  aq : 0 < q → ∀ p, Q = some p → p.block < base
/-- What a deed leaves. -/
def Done8 (w w' : World) (base pb l d px : Nat) (y : MB) : Prop := ∃ (x' : MB) (s' : MS), x'.p = px ∧ PX w' base pb l d x' y s' ∧ Below base w w' ∧ w.heap.size ≤ w'.heap.size
/-- The same, with the state named. -/
def Done8S (w w' : World) (base pb l d px : Nat) (y : MB) (s' : MS) : Prop := ∃ x' : MB, x'.p = px ∧ PX w' base pb l d x' y s' ∧ Below base w w' ∧ w.heap.size ≤ w'.heap.size
theorem Done8S.done {w w' : World} {base pb l d px : Nat} {y : MB} {s' : MS} (h : Done8S w w' base pb l d px y s') : Done8 w w' base pb l d px y := by
  obtain ⟨x', h1, h2, h3, h4⟩ := h
  exact ⟨x', s', h1, h2, h3, h4⟩
theorem DA.keep {w w' : World} {base np m c q dq : Nat} {P B Q : Option Addr} {L : List PT} {a : Int} {bs : List UInt8} {pk : List Int} (h : DA w base P np L a B m c bs Q q dq pk) (g : Grow w w') : DA w' base P np L a B m c bs Q q dq pk :=
  ⟨h.pats.keep g, h.wide, (h.bytes.below g).more g.size, h.len, h.cap, h.picks.keep g, h.pcap, h.pw, h.ab, h.aq⟩
/-- The bytes and the picks, cut. -/
structure DC (w : World) (base : Nat) (B : Option Addr) (m : Nat) (bs : List UInt8) (Q : Option Addr) (q : Nat) (pk : List Int) : Prop where
  bytes : Sl w B m bs
  picks : RI w Q q pk
  pw : ∀ p ∈ pk, -9223372036854775808 ≤ p ∧ p ≤ 9223372036854775807
  ab : 0 < m → ∀ p, B = some p → p.block < base
  aq : 0 < q → ∀ p, Q = some p → p.block < base
theorem RI.take {w : World} {A : Option Addr} {n k : Nat} {K : List Int} (h : RI w A n K) (hk : k ≤ n) : RI w A k (K.take k) := by
  obtain ⟨h1, h2⟩ := h
  refine ⟨by rw [List.length_take]; omega, ?_⟩
  have := Rd.take h2 hk
  rw [Nat.mul_one] at this
  simpa [ics, List.map_take] using this
theorem DA.cut {w : World} {base np m c q dq : Nat} {P B Q : Option Addr} {L : List PT} {a : Int} {bs : List UInt8} {pk : List Int} (h : DA w base P np L a B m c bs Q q dq pk) : DC w base B (min m 60) (bs.take (min m 60)) Q (min q 200) (pk.take (min q 200)) := by
  obtain ⟨h1, h2, h3, h4, h5, h6, h7, h8, h9, h10⟩ := h
  refine ⟨Sl.ofTake h3 (by omega) (by omega), h6.take (by omega), fun p hp => h8 p (List.mem_of_mem_take hp), fun h0 => h9 (by omega), fun h0 => h10 (by omega)⟩
theorem DC.keep {w w' : World} {base m q : Nat} {B Q : Option Addr} {bs : List UInt8} {pk : List Int} (h : DC w base B m bs Q q pk) (g : Grow w w') : DC w' base B m bs Q q pk := ⟨h.bytes.keep g, h.picks.keep g, h.pw, h.ab, h.aq⟩
section
variable {w w1 w2 : World} {base pb l d : Nat} {x y : MB} {s s' : MS}
theorem PX.outB (h : PX w base pb l d x y s) {m : Nat} {B : Option Addr} (hB : 0 < m → ∀ p, B = some p → p.block < base) : (0 < m → ∀ p, B = some p → ¬ x.F p.block) ∧ (0 < m → ∀ p, B = some p → ¬ y.F p.block) :=
  ⟨fun h0 p hp q => by have := hB h0 p hp; have := h.xb _ q; omega, fun h0 p hp q => by have := hB h0 p hp; have := h.yb _ q; omega⟩
theorem PX.done (h : PX w base pb l d x y s) (hb : base ≤ w.heap.size) (h1 : LG w1 l x s') (t1 : Turn x.F w w1) (h2 : RL w2 d y s') (t2 : Turn y.F w1 w2) {W : World} (g : Grow W w) (hW : base ≤ W.heap.size) : Done8 W w2 base pb l d x.p y :=
  ⟨x, s', rfl, h.both h1 t1 h2 t2, (g.mono hW).trans (h.low hb t1 t2), Nat.le_trans g.size (Nat.le_trans t1.size t2.size)⟩
theorem PX.doneS (h : PX w base pb l d x y s) (hb : base ≤ w.heap.size) (h1 : LG w1 l x s') (t1 : Turn x.F w w1) (h2 : RL w2 d y s') (t2 : Turn y.F w1 w2) {W : World} (g : Grow W w) (hW : base ≤ W.heap.size) : Done8S W w2 base pb l d x.p y s' :=
  ⟨x, rfl, h.both h1 t1 h2 t2, (g.mono hW).trans (h.low hb t1 t2), Nat.le_trans g.size (Nat.le_trans t1.size t2.size)⟩
end

theorem PX.crash {w w1 w2 W : World} {base pb l d g' : Nat} {x y : MB} {s : MS} {S T : List UInt8} {A : List Bool} (h : PX w base pb l d x y s) (hb : base ≤ w.heap.size) (hg : w.heap.size ≤ g') (h1 : PM w1 ⟨x.p, g', x.gt, x.b⟩ 128 S T A) (t1 : Turn x.F w w1) (h2 : RM w2 y 128 S T A) (t2 : Turn y.F w1 w2) (g : Grow W w) (hW : base ≤ W.heap.size) : Done8 W w2 base pb l d x.p y := by
  have hl := h.lg.2.1.1
  have hd := h.rl.2.1.1
  have hp := h.blk.1
  have hF : ∀ k, (⟨x.p, g', x.gt, x.b⟩ : MB).F k → x.F k ∨ k = g' := by
    rintro k (q | q | q | q)
    · exact .inl (.inl q)
    · exact .inr q
    · exact .inl (.inr (.inr (.inl q)))
    · exact .inl (.inr (.inr (.inr q)))
  have hy := h.rl.1.lt
  refine ⟨⟨x.p, g', x.gt, x.b⟩, ⟨S, T, A⟩, rfl, ⟨⟨h1.turn t2 fun k q q2 => ?_, (h.lg.2.1.turn t1 h.lg.2.2).turn t2 h.yl, fun q => ?_⟩, ⟨h2, (h.rl.2.1.turn t1 h.xd).turn t2 h.rl.2.2, h.rl.2.2⟩, fun k q q2 => ?_, fun q => ?_, h.yl, (h.blk.turn t1 h.xp).turn t2 h.yp, fun q => ?_, h.yp, fun k q => ?_, h.yb⟩, (g.mono hW).trans (h.low hb t1 t2), Nat.le_trans g.size (Nat.le_trans t1.size t2.size)⟩
  · rcases hF _ q2 with q3 | q3
    · exact h.ap k q3 q
    · have := hy k q; omega
  · rcases hF _ q with q3 | q3
    · exact h.lg.2.2 q3
    · omega
  · rcases hF _ q with q3 | q3
    · exact h.ap k q3 q2
    · have := hy k q2; omega
  · rcases hF _ q with q3 | q3
    · exact h.xd q3
    · omega
  · rcases hF _ q with q3 | q3
    · exact h.xp q3
    · omega
  · rcases hF _ q with q3 | q3
    · exact h.xb k q3
    · omega
end Go.Proofs.Ytlinlmimakealaa

namespace Go.Proofs.Ytlinlmimakealaa
open Go.RowKit

/-- The program's side of a pair at pb: its memory (px) and its log l in the state s; what was there at W is as it was. -/
structure LP (W w : World) (pb l px py d : Nat) (x : MB) (s : MS) : Prop where
  lg : LG w l x s
  p : x.p = px
  blk : Blk w pb [.pointer (some ⟨px, 0, none⟩), .pointer (some ⟨l, 0, none⟩), .pointer (some ⟨py, 0, none⟩), .pointer (some ⟨d, 0, none⟩)]
  xp : ¬ x.F pb
  xb : ∀ k, x.F k → W.heap.size ≤ k
  g : Grow W w
section
variable {W w w' : World} {pb l px py d : Nat} {x : MB} {s s' : MS}
theorem LP.keep (h : LP W w pb l px py d x s) (k : Grow w w') : LP W w' pb l px py d x s := ⟨h.lg.keep k, h.p, h.blk.keep k, h.xp, h.xb, h.g.trans k⟩
theorem LP.step (h : LP W w pb l px py d x s) (h1 : LG w' l x s') (t : Turn x.F w w') : LP W w' pb l px py d x s' := ⟨h1, h.p, h.blk.turn t h.xp, h.xp, h.xb, h.g.low (t.low h.xb h.g.size)⟩
theorem LP.ok (h : LP W w pb l px py d x s) : s.ok := ⟨h.lg.1.lenS, h.lg.1.lenT, h.lg.1.lenA⟩
theorem LP.lt (h : LP W w pb l px py d x s) : ∀ k, x.F k → k < w.heap.size := h.lg.1.lt
theorem PX.lp {y : MB} (h : PX w W.heap.size pb l d x y s) (g : Grow W w) : LP W w pb l x.p y.p d x s := ⟨h.lg, rfl, h.blk, h.xp, h.xb, g⟩

theorem lp_flush (h : LP W w pb l px py d x s) (a n : Int) (h1 : -9223372036854775808 ≤ n) (h2 : n ≤ 9223372036854775807) :
    Calls Try.prog 18 #[.pointer (some ⟨px, 0, none⟩), .int .i64 a, .int .i64 n] w fun e w' => (∃ er, e = .returned (.int .i64 er)) ∧ LP W w' pb l px py d x (s.flush a n) ∧ Turn x.F w w' := by
  obtain rfl := h.p
  refine (pm_flushU h.lg.1 a n h1 h2).mono ?_
  rintro e w' ⟨rfl, h5, t5⟩
  exact ⟨⟨_, rfl⟩, h.step ⟨h5, h.lg.2.1.turn t5 h.lg.2.2, h.lg.2.2⟩ t5, t5⟩
theorem lp_fence (h : LP W w pb l px py d x s) :
    Calls Try.prog 19 #[.pointer (some ⟨px, 0, none⟩)] w fun e w' => e = .returned (.tuple #[]) ∧ LP W w' pb l px py d x s.fence ∧ Turn x.F w w' := by
  obtain rfl := h.p
  refine (pm_fence h.lg.1).mono ?_
  rintro e w' ⟨rfl, h5, t5⟩
  exact ⟨rfl, h.step ⟨h5, h.lg.2.1.turn t5 h.lg.2.2, h.lg.2.2⟩ t5, t5⟩
theorem lp_store (h : LP W w pb l px py d x s) {B : Option Addr} {m c : Nat} {bs : List UInt8} (hs : Sl w B m bs) (hB : 0 < m → ∀ p, B = some p → ¬ x.F p.block) (a : Int) :
    Calls Try.prog 17 #[.pointer (some ⟨px, 0, none⟩), .int .i64 a, .slice B m c] w fun e w' => (∃ er, e = .returned (.int .i64 er)) ∧ LP W w' pb l px py d x (s.store a bs) ∧ Turn x.F w w' := by
  obtain rfl := h.p
  refine (pm_storeU h.lg.1 hs hB a).mono ?_
  rintro e w' ⟨rfl, h5, t5⟩
  have hl := hs.1
  refine ⟨⟨_, rfl⟩, h.step ⟨?_, h.lg.2.1.turn t5 h.lg.2.2, h.lg.2.2⟩ t5, t5⟩
  simp only [MS.store]
  rw [hl]
  exact h5
theorem lp_crash (h : LP W w pb l px py d x s) {B : Option Addr} {m c : Nat} {pk : List Int} (hs : RI w B m pk) (hB : 0 < m → ∀ p, B = some p → ¬ x.F p.block) :
    Calls Try.prog 21 #[.pointer (some ⟨px, 0, none⟩), .slice B m c] w fun e w' => e = .returned (.tuple #[]) ∧ ∃ x', LP W w' pb l px py d x' (s.crash pk) ∧ Turn x.F w w' ∧ ∀ k, x'.F k → x.F k ∨ w.heap.size ≤ k := by
  obtain rfl := h.p
  refine (pm_crash h.lg.1 hs hB).mono ?_
  rintro e w' ⟨rfl, g', hg, h5, t5⟩
  have hF : ∀ k, (⟨x.p, g', x.gt, x.b⟩ : MB).F k → x.F k ∨ k = g' := by
    rintro k (q | q | q | q)
    · exact .inl (.inl q)
    · exact .inr q
    · exact .inl (.inr (.inr (.inl q)))
    · exact .inl (.inr (.inr (.inr q)))
  have hl := h.lg.2.1.1
  have hp := h.blk.1
  have hz := h.g.size
  refine ⟨rfl, ⟨x.p, g', x.gt, x.b⟩, ⟨⟨h5, h.lg.2.1.turn t5 h.lg.2.2, fun q => ?_⟩, rfl, h.blk.turn t5 h.xp, fun q => ?_, fun k q => ?_, h.g.low (t5.low h.xb h.g.size)⟩, t5, fun k q => (hF k q).imp id fun q2 => by omega⟩
  · rcases hF _ q with q3 | q3
    · exact h.lg.2.2 q3
    · omega
  · rcases hF _ q with q3 | q3
    · exact h.xp q3
    · omega
  · rcases hF _ q with q3 | q3
    · exact h.xb k q3
    · omega
theorem lp_append (h : LP W w pb l px py d x s) {A : Option Addr} {n c : Nat} {L : List PT} (hr : RP w A n L) (hw : ∀ p ∈ L, p.wide) :
    Calls Try.prog 37 #[.pointer (some ⟨l, 0, none⟩), .slice A n c] w fun e w' => e = .returned (.int .i64 (apE s.S L)) ∧ LP W w' pb l px py d x (s.append L) ∧ Turn x.F w w' := by
  refine (pl_append h.lg hr hw).mono ?_
  rintro e w' ⟨rfl, h5, t5⟩
  exact ⟨rfl, h.step h5 t5, t5⟩
theorem lp_redo (h : LP W w pb l px py d x s) :
    Calls Try.prog 22 #[.pointer (some ⟨l, 0, none⟩)] w fun e w' => e = .returned (.int .i64 ((lgL s.S).length : Nat)) ∧ LP W w' pb l px py d x s.redo ∧ Turn x.F w w' := by
  refine (pl_redo h.lg).mono ?_
  rintro e w' ⟨rfl, h5, t5⟩
  exact ⟨rfl, h.step h5 t5, t5⟩
end
theorem recs_small {s : MS} {R : List RW} (h : R.map RW.L = lgL s.S) : ∀ r ∈ R, r.L.length ≤ 60000 := fun r hr => by
  have := (rcL_few _ (lgB s.S) (Nat.le_refl _) r.L (by have : r.L ∈ R.map RW.L := List.mem_map_of_mem hr; rw [h] at this; exact this)).1
  omega
/-- After a flush of all and a fence all that is seen lasts. -/
theorem flush_all {s : MS} (h : s.ok) : (s.flush 0 1024).fence.still := by
  refine MS.fence_still (h.ok_flush _ _) ?_
  rw [MS.flush_in (by decide)]
  intro k hk hd
  rw [flushA_get _ _ _ _ _ (by rw [h.A]; exact hk), hd]
  have : lineB (Int.toNat 0) (Int.toNat 1024) k = true := by
    simp only [lineB, decide_eq_true_eq, Int.toNat_zero, show Int.toNat 1024 = 1024 from rfl]
    omega
  rw [this]; simp
theorem still_crash {s : MS} (hs : s.still) (pk : List Int) : (s.crash pk).S = s.S := by
  show mixL s.S s.T _ = s.S
  rw [← show s.S = s.T from hs]
  refine ext_getD (by rw [mixL_length]) fun j hj => ?_
  rw [mixL_length] at hj
  rw [mixL_get _ _ _ _ hj]; simp
end Go.Proofs.Ytlinlmimakealaa

namespace Go.Proofs.Ytlinlmimakealaa
open Go.RowKit

/-- May these bytes be stored? -/
def stO (L : List PT) (a : Int) (m : Nat) : Bool := inW 1024 a m && (decide (m ≤ 256) && decide (L.length < 64))
def stL (L : List PT) (a : Int) (bs : List UInt8) : List PT := if stO L a bs.length then L ++ [⟨a, ⟨bs.toArray⟩⟩] else L
def cmE (s : MS) (L : List PT) : Int := if L.length = 0 then 0 else apE s.S L
def cmS (s : MS) (L : List PT) : MS := if L.length = 0 then s else if apE s.S L = 0 then (s.append L).redo else s
def cmL (s : MS) (L : List PT) : List PT := if L.length = 0 then [] else if apE s.S L = 0 then [] else L
/-- What a transaction may hold. -/
structure Held (L : List PT) : Prop where
  few : L.length ≤ 64
  fit : ∀ p ∈ L, p.fits
theorem Held.nil : Held [] := ⟨by simp, fun p hp => by simp at hp⟩
theorem Held.wide {L : List PT} (h : Held L) : ∀ p ∈ L, p.wide := fun p hp => (h.fit p hp).wide
theorem Held.store {L : List PT} (h : Held L) (a : Int) (bs : List UInt8) : Held (stL L a bs) := by
  unfold stL
  split
  · rename_i h1
    simp only [stO, Bool.and_eq_true, decide_eq_true_eq] at h1
    obtain ⟨h2, h3, h4⟩ := h1
    obtain ⟨q1, q2, q3⟩ := inW_iff.1 h2
    refine ⟨by simp; omega, fun p hp => ?_⟩
    rcases List.mem_append.1 hp with hp | hp
    · exact h.fit p hp
    · simp at hp
      subst hp
      have : (⟨bs.toArray⟩ : ByteArray).size = bs.length := by simp [ByteArray.size]
      refine ⟨q1, ?_, ?_⟩
      · simp only [this]; omega
      · simp only [this]; omega
  · exact h
theorem Held.commit {s : MS} {L : List PT} (h : Held L) : Held (cmL s L) := by
  unfold cmL
  split
  · exact Held.nil
  · split
    · exact Held.nil
    · exact h

structure TX (w : World) (base t l : Nat) (x : MB) (s : MS) (L : List PT) (v : Value) : Prop where
  lg : LG w l x s
  blk : Row w t [.pointer (some ⟨x.p, 0, none⟩), .pointer (some ⟨l, 0, none⟩), v]
  row : OP w base v L
  xt : ¬ x.F t
  tl : t ≠ l
  vx : ∀ g, v.ownBlock = some g → ¬ x.F g ∧ g ≠ t ∧ g ≠ l
  held : Held L
structure RX (w : World) (base t l : Nat) (x : MB) (s : MS) (L : List PT) (v : Value) : Prop where
  lg : RL w l x s
  blk : Row w t [.pointer (some ⟨x.p, 0, none⟩), .pointer (some ⟨l, 0, none⟩), v]
  row : OP w base v L
  xt : ¬ x.F t
  tl : t ≠ l
  vx : ∀ g, v.ownBlock = some g → ¬ x.F g ∧ g ≠ t ∧ g ≠ l
  held : Held L
/-- The blocks of a transaction. -/
def TF (t : Nat) (x : MB) (v : Value) (k : Nat) : Prop := x.F k ∨ k = t ∨ v.ownBlock = some k
section
variable {w w' : World} {base t l : Nat} {x : MB} {s s' : MS} {L : List PT} {v : Value} {F : Nat → Prop}
theorem TX.keep (h : TX w base t l x s L v) (g : Grow w w') : TX w' base t l x s L v := ⟨h.lg.keep g, h.blk.keep g, h.row.keep g, h.xt, h.tl, h.vx, h.held⟩
theorem RX.keep (h : RX w base t l x s L v) (g : Grow w w') : RX w' base t l x s L v := ⟨h.lg.keep g, h.blk.keep g, h.row.keep g, h.xt, h.tl, h.vx, h.held⟩
theorem TX.turn (h : TX w base t l x s L v) (k : Turn F w w') (hF : ∀ k, F k → ¬ TF t x v k ∧ k ≠ l) : TX w' base t l x s L v :=
  ⟨h.lg.turn k (fun i q z => (hF i q).1 (.inl z)) (fun q => (hF l q).2 rfl), h.blk.turn k (fun q => (hF t q).1 (.inr (.inl rfl))), h.row.turn k (fun g hg q => (hF g q).1 (.inr (.inr hg))), h.xt, h.tl, h.vx, h.held⟩
theorem RX.turn (h : RX w base t l x s L v) (k : Turn F w w') (hF : ∀ k, F k → ¬ TF t x v k ∧ k ≠ l) : RX w' base t l x s L v :=
  ⟨h.lg.turn k (fun i q z => (hF i q).1 (.inl z)) (fun q => (hF l q).2 rfl), h.blk.turn k (fun q => (hF t q).1 (.inr (.inl rfl))), h.row.turn k (fun g hg q => (hF g q).1 (.inr (.inr hg))), h.xt, h.tl, h.vx, h.held⟩
/-- The memory and the log go on; the transaction stays. -/
theorem TX.mem (h : TX w base t l x s L v) (h1 : LG w' l x s') (k : Turn x.F w w') : TX w' base t l x s' L v :=
  ⟨h1, h.blk.turn k h.xt, h.row.turn k (fun g hg => (h.vx g hg).1), h.xt, h.tl, h.vx, h.held⟩
theorem RX.mem (h : RX w base t l x s L v) (h1 : RL w' l x s') (k : Turn x.F w w') : RX w' base t l x s' L v :=
  ⟨h1, h.blk.turn k h.xt, h.row.turn k (fun g hg => (h.vx g hg).1), h.xt, h.tl, h.vx, h.held⟩
theorem TX.tfl (h : TX w base t l x s L v) : ∀ k, TF t x v k → k < w.heap.size := by
  rintro k (q | rfl | q)
  · exact h.lg.1.lt k q
  · exact h.blk.1.1
  · exact (World.ownsRow.lt h.row k q).2
theorem RX.tfl (h : RX w base t l x s L v) : ∀ k, TF t x v k → k < w.heap.size := by
  rintro k (q | rfl | q)
  · exact h.lg.1.lt k q
  · exact h.blk.1.1
  · exact (World.ownsRow.lt h.row k q).2
theorem TX.ok (h : TX w base t l x s L v) : s.ok := ⟨h.lg.1.lenS, h.lg.1.lenT, h.lg.1.lenA⟩
/-- A new row in the transaction's last cell. -/
theorem TX.put {v' : Value} {L' : List PT} (h : TX w base t l x s L v) (r : OP w' base v' L') (k : Turn (fun i => v.ownBlock = some i) w w') (hv : v'.ownBlock = v.ownBlock ∨ ∀ g, v'.ownBlock = some g → w.heap.size ≤ g) (hh : Held L') :
    TX (w'.setCell ⟨t, 2, none⟩ v') base t l x s L' v' := by
  have h1 : Row w' t [.pointer (some ⟨x.p, 0, none⟩), .pointer (some ⟨l, 0, none⟩), v] := h.blk.turn k fun q => (h.vx t q).2.1 rfl
  have hv2 : ∀ g, v'.ownBlock = some g → ¬ x.F g ∧ g ≠ t ∧ g ≠ l := by
    intro g hg
    rcases hv with e | e
    · exact h.vx g (e ▸ hg)
    · have := e g hg
      have := h.lg.1.lt g
      have := h.blk.1.1
      have := h.lg.2.1.1
      refine ⟨fun q => ?_, ?_, ?_⟩
      · have := h.lg.1.lt g q; omega
      · omega
      · omega
  have tu := Turn.setCell (F := fun i => i = t) w' (p := ⟨t, 2, none⟩) rfl v'
  exact ⟨(h.lg.turn k (fun g hg => (h.vx g hg).1) (fun q => (h.vx l q).2.2 rfl)).turn tu (fun g hg => hg ▸ h.xt) (fun q => h.tl q.symm), h1.set (j := 2) (v := v') (by simp), r.turn tu (fun g hg q => (hv2 g hg).2.1 q), h.xt, h.tl, hv2, hh⟩
theorem RX.put {v' : Value} {L' : List PT} (h : RX w base t l x s L v) (r : OP w' base v' L') (k : Turn (fun i => v.ownBlock = some i) w w') (hv : v'.ownBlock = v.ownBlock ∨ ∀ g, v'.ownBlock = some g → w.heap.size ≤ g) (hh : Held L') :
    RX (w'.setCell ⟨t, 2, none⟩ v') base t l x s L' v' := by
  have h1 : Row w' t [.pointer (some ⟨x.p, 0, none⟩), .pointer (some ⟨l, 0, none⟩), v] := h.blk.turn k fun q => (h.vx t q).2.1 rfl
  have hv2 : ∀ g, v'.ownBlock = some g → ¬ x.F g ∧ g ≠ t ∧ g ≠ l := by
    intro g hg
    rcases hv with e | e
    · exact h.vx g (e ▸ hg)
    · have := e g hg
      have := h.blk.1.1
      have := h.lg.2.1.1
      refine ⟨fun q => ?_, ?_, ?_⟩
      · have := h.lg.1.lt g q; omega
      · omega
      · omega
  have tu := Turn.setCell (F := fun i => i = t) w' (p := ⟨t, 2, none⟩) rfl v'
  exact ⟨(h.lg.turn k (fun g hg => (h.vx g hg).1) (fun q => (h.vx l q).2.2 rfl)).turn tu (fun g hg => hg ▸ h.xt) (fun q => h.tl q.symm), h1.set (j := 2) (v := v') (by simp), r.turn tu (fun g hg q => (hv2 g hg).2.1 q), h.xt, h.tl, hv2, hh⟩
end
/-- 'append(s, p)' at a step of a region that draws. -/
theorem step_appP {w : World} {ops : Array Oper} {o : Oper} {a : Act} {K : Act → World → Prop} {Q : Exit → Act → World → Prop} {E : Prop} (hgd : o.guard = none) (s x : Operand)
    (ho : o.op = .call { callee := .builtin .append, args := #[s, x], argTypes := #[34, 34] })
    (base : Nat) (v : Value) (L : List PT) (hs : a.eval s = v) (r : PT) (B : Nat) (A : Option Addr) (hx : a.eval x = .slice A 1 1) (hr : Rd w B A 2 1 (pcs [r])) (hown : OP w base v L)
    (h63 : L.length + 1 ≤ 1000000) (hbase : base ≤ w.heap.size)
    (h : ∀ v' w', OP w' base v' (L ++ [r]) → w.grownBy w' v.ownBlock → (v'.ownBlock = v.ownBlock ∨ v'.ownBlock = some w.heap.size) → K (a.put o.dst v') w') : if Region.wanted o (yielded ops a.tmps) = true then Oper.wp Try.prog o a w K Q else E := by
  have hw : Region.wanted o (yielded ops a.tmps) = true := by simp [Region.wanted, hgd]
  rw [if_pos hw]
  obtain ⟨i0, hi, hz, h1, h2⟩ := info_parts pt_info
  obtain ⟨v', w', hrun, h3, h4, h5⟩ := app_any (P := Try.prog) w base 34 o.type 37 i0 _ 2 24 Try.underlying34 hi hz h1 h2 rfl (by omega) v L.length (pcs L) hown B A 1 1 (pcs [r]) hr (pcs_one [r]) (by unfold maxLen; omega) (by omega) hbase
  unfold Oper.wp execOp
  simp only [ho, resolve, invoke, builtin, Sem.run_bind, Sem.run_pure, Result.andThen_ok, List.map_toArray, List.map_cons, List.map_nil, hs, hx, hrun]
  exact h v' w' (by unfold OP; rw [List.length_append, pcs_append]; exact h3) h4 h5
theorem Rd.new1 {w w' : World} (r : PT) (g : Grow (w.alloc (.cells #[.int .i64 r.pos, .string r.dat] 37)) w') : Rd w' (w.heap.size + 1) (some ⟨w.heap.size, 0, none⟩) 2 1 (pcs [r]) := by
  have h := Rd.litP w 37 (pcs [r]) 2 1 rfl
  have g' : Below (w.heap.size + 1) (w.alloc (.cells (pcs [r]).toArray 37)) w' := g.mono (by simp)
  exact Rd.below h g'
end Go.Proofs.Ytlinlmimakealaa
