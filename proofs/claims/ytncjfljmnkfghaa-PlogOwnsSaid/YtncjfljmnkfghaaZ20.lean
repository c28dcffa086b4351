/- commonsref03: Crash. commonslaw08.does: what it leaves. Arguments that are slices of ints, of deeds (commonslaw08). commonslaw08.does: Append. No statement of the seat is proved here. -/
import Derived.Test.YtncjfljmnkfghaaZ07
import Derived.Deep.CutBlock
import Derived.Test.YtncjfljmnkfghaaZ19
import Derived.Test.YtncjfljmnkfghaaZ16
import Derived.Deep.DeepCutAuto
import Derived.Deep.RegionHeld3
import Derived.Test.YtncjfljmnkfghaaZ18
import Derived.DataReads
namespace Go.Proofs.Ytncjfljmnkfghaa
open Go.RowKit

theorem tmod2 {p : Int} (h : ¬ p < 0) : (Int.tmod p 2 == 1) = oddP p := by
  rw [Int.tmod_eq_emod_of_nonneg (by omega)]
  unfold oddP
  rw [decide_eq_false h]
  have : p % 2 = 0 ∨ p % 2 = 1 := by omega
  rcases this with e | e <;> rw [e] <;> rfl
theorem tmod2n {p : Int} (h : p < 0) : (Int.tmod (-(p + 1)) 2 == 1) = oddP p := by
  rw [Int.tmod_eq_emod_of_nonneg (by omega)]
  unfold oddP
  rw [decide_eq_true h]
  have : p % 2 = 0 ∨ p % 2 = 1 := by omega
  rcases this with e | e
  · rw [e, show -(p + 1) % 2 = 1 by omega]; rfl
  · rw [e, show -(p + 1) % 2 = 0 by omega]; rfl
/-- The bytes before j as they last, the others as they are seen. -/
def backL (S T : List UInt8) (j : Nat) : List UInt8 := (List.range S.length).map fun i => if i < j then T.getD i 0 else S.getD i 0
theorem backL_length (S T : List UInt8) (j : Nat) : (backL S T j).length = S.length := by simp [backL]
theorem backL_get (S T : List UInt8) (j i : Nat) (hi : i < S.length) : (backL S T j).getD i 0 = if i < j then T.getD i 0 else S.getD i 0 := by simp [backL, List.getD_eq_getElem?_getD, hi]
theorem backL_zero (S T : List UInt8) : backL S T 0 = S := ext_getD (backL_length ..) fun i hi => by rw [backL_length] at hi; rw [backL_get _ _ _ _ hi, if_neg (by omega)]
theorem backL_end (S T : List UInt8) (h : S.length = T.length) : backL S T S.length = T := ext_getD (by rw [backL_length, h]) fun i hi => by rw [backL_length] at hi; rw [backL_get _ _ _ _ hi, if_pos hi]
theorem backL_step (S T : List UInt8) (j : Nat) (hj : j < S.length) : (backL S T j).set j (T.getD j 0) = backL S T (j + 1) := by
  refine ext_getD (by rw [List.length_set, backL_length, backL_length]) fun i hi => ?_
  rw [List.length_set, backL_length] at hi
  rw [backL_get _ _ _ _ hi, List.getD_eq_getElem?_getD]
  by_cases e : i = j
  · subst e; rw [List.getElem?_set_self (by rw [backL_length]; exact hj), if_pos (by omega)]; rfl
  · rw [List.getElem?_set_ne (Ne.symm e), ← List.getD_eq_getElem?_getD, backL_get _ _ _ _ hi]
    by_cases h2 : i < j
    · rw [if_pos h2, if_pos (by omega)]
    · rw [if_neg h2, if_neg (by omega)]
def offA (A : List Bool) (k : Nat) : List Bool := (List.range A.length).map fun j => A.getD j false && decide (k ≤ j)
theorem offA_length (A : List Bool) (k : Nat) : (offA A k).length = A.length := by simp [offA]
theorem offA_get (A : List Bool) (k j : Nat) (hj : j < A.length) : (offA A k).getD j false = (A.getD j false && decide (k ≤ j)) := by simp [offA, List.getD_eq_getElem?_getD, hj]
theorem offA_step (A : List Bool) (k : Nat) (hk : k < A.length) : (offA A k).set k false = offA A (k + 1) := getD_ext (by simp [offA_length]) fun j hj => by
  rw [List.length_set, offA_length] at hj
  rw [getD_set _ _ _ _ (by rw [offA_length]; exact hk), offA_get _ _ _ hj, offA_get _ _ _ hj]
  by_cases e : j = k
  · subst e; rw [if_pos rfl, decide_eq_false (by omega)]; simp
  · rw [if_neg e]; congr 1; simp; omega
theorem offA_zero (A : List Bool) : offA A 0 = A := geA_zero A
theorem offA_end (A : List Bool) : offA A A.length = List.replicate A.length false := geA_end A

def RCrashInv (w wr : World) (x : MB) (N : Nat) (S T : List UInt8) (pk : List Int) (t : Value) : Prop := ∃ (i : Nat) (A' : List Bool), t = .int .i64 (i : Int) ∧ i ≤ (dirtyL S T N).length ∧ RM wr x N S (mixL S T (crashB (dirtyL S T N) pk i)) A' ∧ Turn x.F w wr
def RBackInv (w wr : World) (x : MB) (N : Nat) (S T : List UInt8) (A : List Bool) (t : Value) : Prop := ∃ j : Nat, t = .int .i64 (j : Int) ∧ j ≤ 8 * N ∧ RM wr x N (backL S T j) T A ∧ Turn x.F w wr
def ROffInv (w wr : World) (x : MB) (N : Nat) (S T : List UInt8) (A : List Bool) (t : Value) : Prop := ∃ k : Nat, t = .int .i64 (k : Int) ∧ k ≤ N ∧ RM wr x N S T (offA A k) ∧ Turn x.F w wr

set_option maxHeartbeats 4000000 in
set_option maxRecDepth 8000 in
theorem rm_crash {w : World} {x : MB} {N : Nat} {S T : List UInt8} {A : List Bool} (h : RM w x N S T A) {B : Option Addr} {m c : Nat} {pk : List Int} (hs : RI w B m pk) (hB : 0 < m → ∀ p, B = some p → ¬ x.F p.block) (hpk : ∀ p ∈ pk, -9223372036854775808 ≤ p ∧ p ≤ 9223372036854775807) :
    Calls Try.prog 67 #[.pointer (some ⟨x.p, 0, none⟩), .slice B m c] w fun e w' => e = .returned (.tuple #[]) ∧ RM w' x N (mixL S T (crashB (dirtyL S T N) pk (dirtyL S T N).length)) (mixL S T (crashB (dirtyL S T N) pk (dirtyL S T N).length)) (List.replicate N false) ∧ Turn x.F w w' := by
  have HB := Lib.hid h.bound
  have HLT := Lib.hid h.lt
  have HLS := Lib.hid h.lenS
  have HLTT := Lib.hid h.lenT
  have H := Lib.hid h
  have HS := Lib.hid hs
  have HBF := Lib.hid hB
  have HPL := Lib.hid hs.1
  have HPK := Lib.hid hpk
  clear h hs hB hpk
  go_enter Try.func67, Try.ntmps67
  go_wp2_with fail
  refine (rm_dirty H.out).mono ?_
  rintro e w1 ⟨v, rfl, ho, g1⟩
  obtain ⟨D, d, rfl, hd, hR, hDF⟩ := ho.far
  have HDF := Lib.hid (show 0 < (dirtyL S T N).length → ∀ p, D = some p → ¬ x.F p.block from fun _ p hp q => by have := hDF p hp; have := HLT.out _ q; omega)
  have H1 := Lib.hid (H.out.keep g1)
  have HS1 := Lib.hid (HS.out.keep g1)
  have G1 := Lib.hid g1
  obtain ⟨ld, hld⟩ : ∃ ld, (dirtyL S T N).length = ld := ⟨_, rfl⟩
  have HLD := Lib.hid hld
  have HLN := Lib.hid (show ld ≤ N by rw [← hld]; exact dirtyL_length S T N)
  obtain ⟨T1, hT1⟩ : ∃ T1, T1 = mixL S T (crashB (dirtyL S T N) pk (dirtyL S T N).length) := ⟨_, rfl⟩
  have HT1 := Lib.hid hT1
  rw [hld] at hR hd HDF ⊢
  have HR := Lib.hid hR
  clear ho hR hDF hld g1 hT1
  go_upto_block 0 with fail
  go_cut [5, 6] (fun i n wx => (∃ A', RM wx x N S T1 A') ∧ Turn x.F w1 wx)
  case first =>
    go_wp2_with fail
    go_loopw [5, 6] (fun t _ wr => RCrashInv w1 wr x N S T pk t) (fun t _ _ => ld - (intOf t).toNat)
    case atStart => exact ⟨0, A, rfl, Nat.zero_le _, by rw [mixL_none S T (B := crashB (dirtyL S T N) pk 0) (fun k => rfl)]; exact H1.out, Turn.refl _ _⟩
    case round =>
      obtain ⟨i, A', rfl, hi, hP, ht⟩ := hrel
      rw [HLD.out] at hi
      by_cases hlt : i < ld
      · by_cases hip : i < m
        · obtain ⟨b, o, z, hz, rfl, hb, cz⟩ := (HR.out.turn ht HDF.out).at_ hlt
          obtain ⟨k, rfl, hkN, -⟩ := dirtyL_get hz
          obtain ⟨b2, o2, p, hp, rfl, hb2, cp⟩ := (HS1.out.turn ht HBF.out).at_ hip
          have hgp : pk.getD i 0 = p := by rw [List.getD_eq_getElem?_getD, hp]; rfl
          have hbp := HPK.out p (List.mem_of_getElem? hp)
          have HZ := Lib.hid hz
          have HGP := Lib.hid hgp
          have e5 := wrapS hlt (Nat.le_trans HLN.out (Nat.le_trans HB.out.2.2 (by decide)))
          have HP := Lib.hid hP
          have hil : i < pk.length := by rw [HPL.out]; exact hip
          have HIL := Lib.hid hil
          have z1 : decide (i < m) = true := decide_eq_true hip
          have z2 : decide (i < ld) = true := decide_eq_true hlt
          clear hP hz hb hp hgp hb2 hil
          by_cases hneg : p < 0
          · have w1' : wrap64 (p + 1) = p + 1 := IntWalk.wrap64_in _ (by omega)
            have w2' : wrap64 (-(p + 1)) = -(p + 1) := IntWalk.wrap64_in _ (by clear w1'; omega)
            have z3 : decide (p < 0) = true := decide_eq_true hneg
            have hod := tmod2n hneg
            rw [Int.neg_tmod] at hod
            clear hbp hneg
            cases hq : oddP p with
            | true =>
              rw [hq] at hod
              have HQ := Lib.hid (show mixL S T (crashB (dirtyL S T N) pk (i + 1)) = keepN S (mixL S T (crashB (dirtyL S T N) pk i)) (8 * k) 8 by rw [mixL_keep, crashB_go HZ.out HIL.out (by rw [HGP.out]; exact hq)])
              clear hq
              go_wp2_with fail
              refine (rm_keep HP.out k hkN).mono ?_
              rintro e w4 ⟨rfl, hP4, t4⟩
              have X : RCrashInv w1 w4 x N S T pk (.int .i64 ((i : Int) + 1)) := ⟨i + 1, _, by simp, by rw [HLD.out]; exact hlt, by rw [HQ.out]; exact hP4, ht.and t4⟩
              clear hP4 t4
              go_wp2_with fail
              go_roundw
              case rel => (try rw [e5]); first | exact X | ((repeat apply Exists.intro); exact X) | ((repeat apply Exists.intro); refine ⟨X, ?_⟩; rfl)
              case measure => first | exact meas hlt | exact measW hlt e5
            | false =>
              rw [hq] at hod
              have X : RCrashInv w1 wr x N S T pk (.int .i64 ((i : Int) + 1)) := ⟨i + 1, A', by simp, by rw [HLD.out]; exact hlt, by rw [crashB_skip (i := i) (fun _ => by rw [HGP.out]; exact hq)]; exact HP.out, ht⟩
              clear hq
              go_wp2_with fail
              go_roundw
              case rel => (try rw [e5]); first | exact X | ((repeat apply Exists.intro); exact X) | ((repeat apply Exists.intro); refine ⟨X, ?_⟩; rfl)
              case measure => first | exact meas hlt | exact measW hlt e5
          · have z3 : decide (p < 0) = false := decide_eq_false hneg
            have hod := tmod2 hneg
            clear hbp hneg
            cases hq : oddP p with
            | true =>
              rw [hq] at hod
              have HQ := Lib.hid (show mixL S T (crashB (dirtyL S T N) pk (i + 1)) = keepN S (mixL S T (crashB (dirtyL S T N) pk i)) (8 * k) 8 by rw [mixL_keep, crashB_go HZ.out HIL.out (by rw [HGP.out]; exact hq)])
              clear hq
              go_wp2_with fail
              refine (rm_keep HP.out k hkN).mono ?_
              rintro e w4 ⟨rfl, hP4, t4⟩
              have X : RCrashInv w1 w4 x N S T pk (.int .i64 ((i : Int) + 1)) := ⟨i + 1, _, by simp, by rw [HLD.out]; exact hlt, by rw [HQ.out]; exact hP4, ht.and t4⟩
              clear hP4 t4
              go_wp2_with fail
              go_roundw
              case rel => (try rw [e5]); first | exact X | ((repeat apply Exists.intro); exact X) | ((repeat apply Exists.intro); refine ⟨X, ?_⟩; rfl)
              case measure => first | exact meas hlt | exact measW hlt e5
            | false =>
              rw [hq] at hod
              have X : RCrashInv w1 wr x N S T pk (.int .i64 ((i : Int) + 1)) := ⟨i + 1, A', by simp, by rw [HLD.out]; exact hlt, by rw [crashB_skip (i := i) (fun _ => by rw [HGP.out]; exact hq)]; exact HP.out, ht⟩
              clear hq
              go_wp2_with fail
              go_roundw
              case rel => (try rw [e5]); first | exact X | ((repeat apply Exists.intro); exact X) | ((repeat apply Exists.intro); refine ⟨X, ?_⟩; rfl)
              case measure => first | exact meas hlt | exact measW hlt e5
        · have z1 : decide (i < m) = false := decide_eq_false hip
          have z2 : decide (i < ld) = true := decide_eq_true hlt
          have HF := Lib.hid (show RM wr x N S T1 A' by
            rw [HT1.out, HLD.out, show ld = i + (ld - i) by omega, crashB_after (by rw [HPL.out]; omega)]
            exact hP)
          clear hP
          go_wp2_with fail
          go_meet
          exact ⟨⟨_, HF.out⟩, ht⟩
      · have z2 : decide (i < ld) = false := decide_eq_false hlt
        have HF := Lib.hid (show RM wr x N S T1 A' by rw [HT1.out, HLD.out, show ld = i by omega]; exact hP)
        clear hP
        go_wp2_with fail
        go_meet
        exact ⟨⟨_, HF.out⟩, ht⟩
  case rest =>
    obtain ⟨⟨A1, hP⟩, ht⟩ := hcut
    have HP := Lib.hid hP
    have HT := Lib.hid ht
    have HL1 := Lib.hid hP.lenT
    have HLA1 := Lib.hid hP.lenA
    clear hP ht
    go_wp2_with fail
    go_loopw [7] (fun t wr => RBackInv w1 wr x N S T1 A1 t) (fun t _ => 8 * N - (intOf t).toNat)
    case atStart => exact ⟨0, rfl, Nat.zero_le _, by rw [backL_zero]; exact HP.out, HT.out⟩
    case round =>
      obtain ⟨j, rfl, hj, hP2, ht2⟩ := hrel
      obtain ⟨L, cs, ct, ca, HLL, hcs, hct, -, c0, c1, -, l0⟩ := hP2.look
      by_cases hlt : j < 8 * N
      · have hiL : j < L := by rw [HLL.out]; exact hlt
        obtain ⟨s0, f0⟩ := hP2.seenAt hlt
        obtain ⟨t0, -⟩ := hP2.lastAt hlt
        obtain ⟨u, hu⟩ : ∃ u, u = T1.getD j 0 := ⟨_, rfl⟩
        rw [← hu] at t0
        have e5 := wrapS hlt (Nat.mul_le_mul_left 8 HB.out.2.2)
        obtain ⟨hP3, t3⟩ := hP2.seenSet j u
        rw [hu, backL_step _ _ _ (by rw [HLS.out]; exact hlt), ← hu] at hP3
        have X : RBackInv w1 (wr.setCell ⟨x.gs, j, none⟩ (.int .u8 (u.toNat : Int))).drew x N S T1 A1 (.int .i64 ((j : Int) + 1)) := ⟨j + 1, by simp, hlt, hP3.keep ((Grow.refl _).drew), (ht2.and t3).andGrow ((Grow.refl _).drew)⟩
        clear hP2 ht2 hu hP3 t3
        go_wp2_with fail
        go_region
        go_wp2_with fail
        go_roundw
        case rel => (try rw [e5]); first | exact X | ((repeat apply Exists.intro); exact X) | ((repeat apply Exists.intro); refine ⟨X, ?_⟩; rfl)
        case measure => first | exact meas hlt | exact measW hlt e5
      · have hiL : ¬ j < L := by rw [HLL.out]; exact hlt
        have HP3 := Lib.hid (show RM wr x N T1 T1 A1 by rw [show j = S.length by rw [HLS.out]; omega, backL_end _ _ (by rw [HLS.out, HL1.out])] at hP2; exact hP2)
        have HT3 := Lib.hid ht2
        clear hP2 ht2
        go_wp2_with fail
        go_loopw [8] (fun t wr => ROffInv w1 wr x N T1 T1 A1 t) (fun t _ => N - (intOf t).toNat)
        case atStart => exact ⟨0, rfl, Nat.zero_le _, by rw [offA_zero]; exact HP3.out, HT3.out⟩
        case round =>
          obtain ⟨k, rfl, hk, hP4, ht4⟩ := hrel
          obtain ⟨L4, cs4, ct4, ca4, HLL4, -, -, hca4, -, -, d2, l4⟩ := hP4.look
          by_cases hlt4 : k < N
          · obtain ⟨a0, f0⟩ := hP4.awayAt hlt4
            have e5 := wrapS hlt4 (Nat.le_trans HB.out.2.2 (by decide))
            obtain ⟨hP5, t5⟩ := hP4.awaySet k false
            rw [offA_step _ _ (by rw [HLA1.out]; exact hlt4)] at hP5
            have X : ROffInv w1 (wr.setCell ⟨x.b, k, none⟩ (.bool false)) x N T1 T1 A1 (.int .i64 ((k : Int) + 1)) := ⟨k + 1, by simp, hlt4, hP5, ht4.and t5⟩
            clear hP4 ht4 hP5 t5 c0 c1 l0
            go_wp2_with fail
            go_roundw
            case rel => (try rw [e5]); first | exact X | ((repeat apply Exists.intro); exact X) | ((repeat apply Exists.intro); refine ⟨X, ?_⟩; rfl)
            case measure => first | exact meas hlt4 | exact measW hlt4 e5
          · obtain rfl : k = N := by omega
            have HF := Lib.hid (show RM wr x k T1 T1 (List.replicate k false) by
              have h2 := offA_end A1
              rw [HLA1.out] at h2
              rw [← h2]
              exact hP4)
            clear hP4 c0 c1 l0
            go_wp2_with fail
            go_end0
            exact ⟨rfl, by rw [← HT1.out]; exact HF.out, (Turn.grow G1.out x.F).and ht4⟩
end Go.Proofs.Ytncjfljmnkfghaa

namespace Go.Proofs.Ytncjfljmnkfghaa
open Go.RowKit

/-- A deed's parts, as they are read. -/
structure DA (w : World) (base : Nat) (P : Option Addr) (np : Nat) (L : List PT) (a : Int) (B : Option Addr) (m c : Nat) (bs : List UInt8) (Q : Option Addr) (q dq : Nat) (pk : List Int) : Prop where
  pats : RQ w P np L
  wide : ∀ p ∈ L, p.wide
  bytes : RB w w.heap.size B bs
  len : bs.length = m
  cap : m ≤ c
  picks : RI w Q q pk
  pcap : q ≤ dq
  pw : ∀ p ∈ pk, -9223372036854775808 ≤ p ∧ p ≤ 9223372036854775807
  ab : 0 < m → ∀ p, B = some p → p.block < base
  aq : 0 < q → ∀ p, Q = some p → p.block < base
/-- What a deed leaves. -/
def Done8 (w w' : World) (base pb l d px : Nat) (y : MB) : Prop := ∃ (x' : MB) (s' : MS), x'.p = px ∧ PX w' base pb l d x' y s' ∧ Below base w w' ∧ w.heap.size ≤ w'.heap.size
/-- The same, with the state named. -/
def Done8S (w w' : World) (base pb l d px : Nat) (y : MB) (s' : MS) : Prop := ∃ x' : MB, x'.p = px ∧ PX w' base pb l d x' y s' ∧ Below base w w' ∧ w.heap.size ≤ w'.heap.size
theorem Done8S.done {w w' : World} {base pb l d px : Nat} {y : MB} {s' : MS} (h : Done8S w w' base pb l d px y s') : Done8 w w' base pb l d px y := by
  obtain ⟨x', h1, h2, h3, h4⟩ := h
  exact ⟨x', s', h1, h2, h3, h4⟩
theorem DA.keep {w w' : World} {base np m c q dq : Nat} {P B Q : Option Addr} {L : List PT} {a : Int} {bs : List UInt8} {pk : List Int} (h : DA w base P np L a B m c bs Q q dq pk) (g : Grow w w') : DA w' base P np L a B m c bs Q q dq pk :=
  ⟨h.pats.keep g, h.wide, (h.bytes.below g).more g.size, h.len, h.cap, h.picks.keep g, h.pcap, h.pw, h.ab, h.aq⟩
/-- The bytes and the picks, cut. -/
structure DC (w : World) (base : Nat) (B : Option Addr) (m : Nat) (bs : List UInt8) (Q : Option Addr) (q : Nat) (pk : List Int) : Prop where
  bytes : Sl w B m bs
  picks : RI w Q q pk
  pw : ∀ p ∈ pk, -9223372036854775808 ≤ p ∧ p ≤ 9223372036854775807
  ab : 0 < m → ∀ p, B = some p → p.block < base
  aq : 0 < q → ∀ p, Q = some p → p.block < base
theorem RI.take {w : World} {A : Option Addr} {n k : Nat} {K : List Int} (h : RI w A n K) (hk : k ≤ n) : RI w A k (K.take k) := by
  obtain ⟨h1, h2⟩ := h
  refine ⟨by rw [List.length_take]; omega, ?_⟩
  have := Rd.take h2 hk
  rw [Nat.mul_one] at this
  simpa [ics, List.map_take] using this
theorem DA.cut {w : World} {base np m c q dq : Nat} {P B Q : Option Addr} {L : List PT} {a : Int} {bs : List UInt8} {pk : List Int} (h : DA w base P np L a B m c bs Q q dq pk) : DC w base B (min m 60) (bs.take (min m 60)) Q (min q 200) (pk.take (min q 200)) := by
  obtain ⟨h1, h2, h3, h4, h5, h6, h7, h8, h9, h10⟩ := h
  refine ⟨Sl.ofTake h3 (by omega) (by omega), h6.take (by omega), fun p hp => h8 p (List.mem_of_mem_take hp), fun h0 => h9 (by omega), fun h0 => h10 (by omega)⟩
theorem DC.keep {w w' : World} {base m q : Nat} {B Q : Option Addr} {bs : List UInt8} {pk : List Int} (h : DC w base B m bs Q q pk) (g : Grow w w') : DC w' base B m bs Q q pk := ⟨h.bytes.keep g, h.picks.keep g, h.pw, h.ab, h.aq⟩
section
variable {w w1 w2 : World} {base pb l d : Nat} {x y : MB} {s s' : MS}
theorem PX.outB (h : PX w base pb l d x y s) {m : Nat} {B : Option Addr} (hB : 0 < m → ∀ p, B = some p → p.block < base) : (0 < m → ∀ p, B = some p → ¬ x.F p.block) ∧ (0 < m → ∀ p, B = some p → ¬ y.F p.block) :=
  ⟨fun h0 p hp q => by have := hB h0 p hp; have := h.xb _ q; omega, fun h0 p hp q => by have := hB h0 p hp; have := h.yb _ q; omega⟩
theorem PX.done (h : PX w base pb l d x y s) (hb : base ≤ w.heap.size) (h1 : LG w1 l x s') (t1 : Turn x.F w w1) (h2 : RL w2 d y s') (t2 : Turn y.F w1 w2) {W : World} (g : Grow W w) (hW : base ≤ W.heap.size) : Done8 W w2 base pb l d x.p y :=
  ⟨x, s', rfl, h.both h1 t1 h2 t2, (g.mono hW).trans (h.low hb t1 t2), Nat.le_trans g.size (Nat.le_trans t1.size t2.size)⟩
theorem PX.doneS (h : PX w base pb l d x y s) (hb : base ≤ w.heap.size) (h1 : LG w1 l x s') (t1 : Turn x.F w w1) (h2 : RL w2 d y s') (t2 : Turn y.F w1 w2) {W : World} (g : Grow W w) (hW : base ≤ W.heap.size) : Done8S W w2 base pb l d x.p y s' :=
  ⟨x, rfl, h.both h1 t1 h2 t2, (g.mono hW).trans (h.low hb t1 t2), Nat.le_trans g.size (Nat.le_trans t1.size t2.size)⟩
end

theorem PX.crash {w w1 w2 W : World} {base pb l d g' : Nat} {x y : MB} {s : MS} {S T : List UInt8} {A : List Bool} (h : PX w base pb l d x y s) (hb : base ≤ w.heap.size) (hg : w.heap.size ≤ g') (h1 : PM w1 ⟨x.p, g', x.gt, x.b⟩ 128 S T A) (t1 : Turn x.F w w1) (h2 : RM w2 y 128 S T A) (t2 : Turn y.F w1 w2) (g : Grow W w) (hW : base ≤ W.heap.size) : Done8 W w2 base pb l d x.p y := by
  have hl := h.lg.2.1.1
  have hd := h.rl.2.1.1
  have hp := h.blk.1
  have hF : ∀ k, (⟨x.p, g', x.gt, x.b⟩ : MB).F k → x.F k ∨ k = g' := by
    rintro k (q | q | q | q)
    · exact .inl (.inl q)
    · exact .inr q
    · exact .inl (.inr (.inr (.inl q)))
    · exact .inl (.inr (.inr (.inr q)))
  have hy := h.rl.1.lt
  refine ⟨⟨x.p, g', x.gt, x.b⟩, ⟨S, T, A⟩, rfl, ⟨⟨h1.turn t2 fun k q q2 => ?_, (h.lg.2.1.turn t1 h.lg.2.2).turn t2 h.yl, fun q => ?_⟩, ⟨h2, (h.rl.2.1.turn t1 h.xd).turn t2 h.rl.2.2, h.rl.2.2⟩, fun k q q2 => ?_, fun q => ?_, h.yl, (h.blk.turn t1 h.xp).turn t2 h.yp, fun q => ?_, h.yp, fun k q => ?_, h.yb⟩, (g.mono hW).trans (h.low hb t1 t2), Nat.le_trans g.size (Nat.le_trans t1.size t2.size)⟩
  · rcases hF _ q2 with q3 | q3
    · exact h.ap k q3 q
    · have := hy k q; omega
  · rcases hF _ q with q3 | q3
    · exact h.lg.2.2 q3
    · omega
  · rcases hF _ q with q3 | q3
    · exact h.ap k q3 q2
    · have := hy k q2; omega
  · rcases hF _ q with q3 | q3
    · exact h.xd q3
    · omega
  · rcases hF _ q with q3 | q3
    · exact h.xp q3
    · omega
  · rcases hF _ q with q3 | q3
    · exact h.xb k q3
    · omega
end Go.Proofs.Ytncjfljmnkfghaa

namespace Go.Proofs.Ytncjfljmnkfghaa
open Go.RowKit
open Go.ChangeShapes Go.WideShapes Go.ChangeAt

set_option maxRecDepth 8000 in
theorem trod_ints {H : Type} {enc : TypeId × Value → H} {W : World} {base fuel : Nat} {cs : List Value} {x : DataW H × List MemPlace} {spare : Nat → Bool} {held : Bool}
    (hf : DataW.trod enc Try.prog W base spare held fuel 53 cs = some x) (hs : ∀ b, spare b = true) :
    ∃ (a : Option Addr) (pk : List Int) (c : Nat), cs = [.slice a pk.length c] ∧ RI W a pk.length pk ∧ pk.length ≤ c ∧ ∀ p ∈ pk, -9223372036854775808 ≤ p ∧ p ≤ 9223372036854775807 := by
  rcases open_ints Try.underlying53 Try.underlying3 (by kernel_rfl) hf with ⟨hcs, _⟩ | ⟨x, l, c, zs, hcs, _, hl, hm, hz, _, hcell, hwz⟩
  · exact ⟨none, [], 0, hcs, ⟨rfl, rfl, fun h => by simp at h⟩, Nat.le_refl _, fun p hp => by simp at hp⟩
  · have hzc : zs.length = c := by simpa [hs] using hz
    have hlen : (zs.take l).length = l := by simp; omega
    refine ⟨some x, zs.take l, c, by rw [hlen, hcs], ⟨rfl, by simp [ics], fun h0 => ?_⟩, by omega, fun p hp => i64_bounds (hwz p (List.mem_of_mem_take hp))⟩
    rw [hlen] at h0
    obtain ⟨b, off, spot⟩ := x
    have hc0 := hcell 0 (by omega)
    have hspot : spot = none := by simpa [Addr.add] using World.cell?_spot hc0
    subst hspot
    have hlt := World.block_lt_of_cell? W _ hc0
    refine ⟨b, off, rfl, by simpa [Addr.add] using hlt, fun j u hu => ?_⟩
    rw [ics, List.getElem?_map] at hu
    by_cases hj : j < l
    · rw [List.getElem?_take, if_pos hj, List.getElem?_eq_getElem (by omega)] at hu
      simp only [Option.map_some, Option.some.injEq] at hu
      have hc := hcell j (by omega)
      rw [Addr.add_lit, List.getD_eq_getElem?_getD, List.getElem?_eq_getElem (by omega)] at hc
      rw [hc, ← hu]
      rfl
    · rw [List.getElem?_eq_none (by rw [List.length_take]; omega)] at hu
      cases hu

set_option maxRecDepth 8000 in
theorem open_picksW {H : Type} {enc : TypeId × Value → H} {W : World} {b0 base : Nat} {v : Value} {d : DataW H} {p : List MemPlace} {spare : Nat → Bool} {held : Bool}
    (hv : Value.okWide Try.prog W .any b0 53 v) (h : DataW.Trod enc Try.prog W base spare held 53 v d p) (hs : ∀ b, spare b = true) :
    ∃ (a : Option Addr) (pk : List Int) (c : Nat), v = .slice a pk.length c ∧ RI W a pk.length pk ∧ pk.length ≤ c ∧ ∀ p ∈ pk, -9223372036854775808 ≤ p ∧ p ≤ 9223372036854775807 := by
  obtain ⟨a, len, cap, rfl⟩ := okWide_slice Try.underlying53 hv
  obtain ⟨fuel, hf⟩ := h
  obtain ⟨a', pk, c, hcs, h1, h2, h3⟩ := trod_ints hf hs
  simp [Value.cells] at hcs
  obtain ⟨rfl, rfl, rfl⟩ := hcs
  exact ⟨_, pk, _, rfl, h1, h2, h3⟩

/-- A deed as it came. -/
structure D8 where
  k : Int
  P : Option Addr
  L : List PT
  cp : Nat
  a : Int
  B : Option Addr
  bs : List UInt8
  c : Nat
  Q : Option Addr
  pk : List Int
  d : Nat
def D8.cells (e : D8) : List Value := [.int .i64 e.k, .slice e.P e.L.length e.cp, .int .i64 e.a, .slice e.B e.bs.length e.c, .slice e.Q e.pk.length e.d]
structure D8.ok (e : D8) (w : World) : Prop where
  pats : RQ w e.P e.L.length e.L
  wide : ∀ p ∈ e.L, p.wide
  bytes : RB w w.heap.size e.B e.bs
  cap : e.bs.length ≤ e.c
  picks : RI w e.Q e.pk.length e.pk
  pcap : e.pk.length ≤ e.d
  pw : ∀ p ∈ e.pk, -9223372036854775808 ≤ p ∧ p ≤ 9223372036854775807
theorem rb_low {w : World} {B : Nat} {A : Option Addr} {bs : List UInt8} (h : RB w B A bs) : 0 < bs.length → ∀ p, A = some p → p.block < B := by
  intro h0 p hp
  obtain ⟨b, o, q, hb, -⟩ := h.2 h0
  rw [q] at hp
  injection hp with hp
  subst hp
  exact hb
theorem ri_low {w : World} {A : Option Addr} {n : Nat} {pk : List Int} (h : RI w A n pk) : 0 < n → ∀ p, A = some p → p.block < w.heap.size := by
  intro h0 p hp
  obtain ⟨b, o, q, hb, -⟩ := h.2.2 h0
  rw [q] at hp
  injection hp with hp
  subst hp
  exact hb
theorem D8.ok.da {e : D8} {W w : World} (h : e.ok W) (g : Grow W w) : DA w W.heap.size e.P e.L.length e.L e.a e.B e.bs.length e.c e.bs e.Q e.pk.length e.d e.pk :=
  ⟨h.pats.keep g, h.wide, (h.bytes.below g).more g.size, rfl, h.cap, h.picks.keep g, h.pcap, h.pw, rb_low h.bytes, ri_low h.picks⟩

set_option maxRecDepth 8000 in
theorem trod_deed8 {H : Type} {enc : TypeId × Value → H} {W : World} {base fuel : Nat} {cs : List Value} {x : DataW H × List MemPlace} {spare : Nat → Bool} {held : Bool}
    (hf : DataW.trod enc Try.prog W base spare held fuel 62 cs = some x) (hs : ∀ b, spare b = true) : ∃ r : D8, cs = r.cells ∧ r.ok W := by
  obtain ⟨xs, n, _, -, hl, hlen, hg⟩ := DataW.trod_struct Try.underlying62 hf
  have hC : Try.prog.cellsOf 62 = 5 := by kernel_rfl
  have e3 : Try.prog.cellsOf 3 = 1 := by kernel_rfl
  have e4 : Try.prog.cellsOf 24 = 1 := by kernel_rfl
  have e9 : Try.prog.cellsOf 53 = 1 := by kernel_rfl
  have e5 : Try.prog.cellsOf 22 = 1 := by kernel_rfl
  match cs, hl.trans hC with
  | [c0, c1, c2, c3, c4], _ =>
    match xs, hlen with
    | [y0, y1, y2, y3, y4], _ =>
      have g0 : DataW.trod enc Try.prog W base spare held n 3 [c0] = some y0 := by simpa [e3] using hg 0 _ rfl
      have g1 : DataW.trod enc Try.prog W base spare held n 22 [c1] = some y1 := by simpa [e5] using hg 1 _ rfl
      have g2 : DataW.trod enc Try.prog W base spare held n 3 [c2] = some y2 := by simpa [e3] using hg 2 _ rfl
      have g3 : DataW.trod enc Try.prog W base spare held n 24 [c3] = some y3 := by simpa [e4] using hg 3 _ rfl
      have g4 : DataW.trod enc Try.prog W base spare held n 53 [c4] = some y4 := by simpa [e9] using hg 4 _ rfl
      obtain ⟨z0, h0, -, -⟩ := DataW.trod_int Try.underlying3 g0
      obtain ⟨P, L, cp, h1, r6, r7, r8⟩ := trod_pats g1 hs
      obtain ⟨z2, h2, -, b2⟩ := DataW.trod_int Try.underlying3 g2
      obtain ⟨B, bs, c, h3, r1, r2, -, -⟩ := trod_bytes g3 hs
      obtain ⟨Q, pk, d, h4, r3, r4, r5⟩ := trod_ints g4 hs
      simp only [List.cons.injEq, and_true] at h0 h1 h2 h3 h4
      subst h0 h1 h2 h3 h4
      exact ⟨⟨z0, P, L, cp, z2, B, bs, c, Q, pk, d⟩, rfl, r6, r8, r1, r2, r3, r4, r5⟩

/-- A slice of deeds that is read. -/
def RD8 (w : World) (A : Option Addr) (n : Nat) (L : List D8) : Prop := L.length = n ∧ (∀ e ∈ L, e.ok w) ∧ (0 < n → ∃ b o, A = some ⟨b, o, none⟩ ∧ b < w.heap.size ∧ ∀ i (hi : i < L.length) j, j < 5 → w.cell? ⟨b, o + i * 5 + j, none⟩ = (L[i].cells)[j]?)
theorem RD8.at_ {w : World} {A : Option Addr} {n : Nat} {L : List D8} (h : RD8 w A n L) {i : Nat} (hi : i < n) : ∃ (b o : Nat) (e : D8), A = some ⟨b, o, none⟩ ∧ b < w.heap.size ∧ e.ok w ∧ w.cell? ⟨b, o + i * 5, none⟩ = some (.int .i64 e.k) ∧ w.cell? ⟨b, o + i * 5 + 1, none⟩ = some (.slice e.P e.L.length e.cp) ∧ w.cell? ⟨b, o + i * 5 + 2, none⟩ = some (.int .i64 e.a) ∧ w.cell? ⟨b, o + i * 5 + 3, none⟩ = some (.slice e.B e.bs.length e.c) ∧ w.cell? ⟨b, o + i * 5 + 4, none⟩ = some (.slice e.Q e.pk.length e.d) := by
  obtain ⟨hn, hok, hr⟩ := h
  obtain ⟨b, o, rfl, hb, hc⟩ := hr (by omega)
  have hi' : i < L.length := by omega
  exact ⟨b, o, L[i], rfl, hb, hok _ (List.getElem_mem _), hc i hi' 0 (by omega), hc i hi' 1 (by omega), hc i hi' 2 (by omega), hc i hi' 3 (by omega), hc i hi' 4 (by omega)⟩

set_option maxRecDepth 8000 in
theorem open_deeds8 {H : Type} {enc : TypeId × Value → H} {W : World} {b0 base : Nat} {v : Value} {d : DataW H} {p : List MemPlace} {spare : Nat → Bool} {held : Bool}
    (hv : Value.okWide Try.prog W .any b0 59 v) (h : DataW.Trod enc Try.prog W base spare held 59 v d p) (hs : ∀ b, spare b = true) :
    ∃ (a : Option Addr) (L : List D8) (c : Nat), v = .slice a L.length c ∧ RD8 W a L.length L ∧ L.length ≤ c := by
  have hC : Try.prog.cellsOf 62 = 5 := by kernel_rfl
  obtain ⟨a, len, cap, rfl⟩ := okWide_slice Try.underlying59 hv
  obtain ⟨fuel, hf⟩ := h
  rcases Deep.open_slice Try.underlying59 hf with ⟨hcs, _⟩ | ⟨x, l, c, m, n, D, Pl, hcs, _, hl, hm, hmm, _, hx⟩
  · simp [Value.cells] at hcs
    obtain ⟨rfl, rfl, rfl⟩ := hcs
    exact ⟨none, [], 0, rfl, ⟨rfl, fun e he => by simp at he, fun h0 => by simp at h0⟩, Nat.le_refl _⟩
  · simp [Value.cells] at hcs
    obtain ⟨rfl, rfl, rfl⟩ := hcs
    have hmc : m = cap := by rw [hmm, hs]; rfl
    have hel : ∀ i, i < len → ∃ r : D8, r.ok W ∧ ∀ j, j < 5 → W.cell? ((x.add (i * 5)).add j) = (r.cells)[j]? := by
      intro i hi
      obtain ⟨cs', h1, ht⟩ := hx i (by omega)
      rw [hC] at h1
      obtain ⟨r, rfl, hok⟩ := trod_deed8 ht hs
      exact ⟨r, hok, (World.cells?_some h1).2.2⟩
    obtain ⟨L, hL, hp⟩ := choose_list hel
    refine ⟨some x, L, cap, by rw [hL], ⟨rfl, fun e he => ?_, fun h0 => ?_⟩, by omega⟩
    · obtain ⟨i, hi, rfl⟩ := List.getElem_of_mem he
      exact (hp i hi).1
    · have hc0 := (hp 0 h0).2 0 (by omega)
      obtain ⟨b, off, spot⟩ := x
      have hspot : spot = none := by simpa [Addr.add] using World.cell?_spot hc0
      subst hspot
      have hlt := World.block_lt_of_cell? W _ hc0
      refine ⟨b, off, rfl, by simpa [Addr.add] using hlt, fun i hi j hj => ?_⟩
      have := (hp i hi).2 j hj
      rwa [Addr.add_lit, Addr.add_lit] at this
end Go.Proofs.Ytncjfljmnkfghaa

namespace Go.Proofs.Ytncjfljmnkfghaa
open Go.RowKit

set_option maxHeartbeats 8000000 in
set_option maxRecDepth 8000 in
theorem does8_0s {w : World} {base pb l d : Nat} {x y : MB} {s : MS} (h : PX w base pb l d x y s) (hb : base ≤ w.heap.size) {np cp m c q dq : Nat} {P B Q : Option Addr} {L : List PT} {a : Int} {bs : List UInt8} {pk : List Int} (hd : DA w base P np L a B m c bs Q q dq pk) :
    Calls Try.prog 34 #[.pointer (some ⟨pb, 0, none⟩), .agg #[.int .i64 0, .slice P np cp, .int .i64 a, .slice B m c, .slice Q q dq]] w fun e w' => e = .returned (.bool true) ∧ Done8S w w' base pb l d x.p y (s.append (fewP 6 40 L)) := by
  have H := Lib.hid h
  have HD := Lib.hid hd
  have HC := Lib.hid hd.cut
  have hcap := hd.cap
  have hpcap := hd.pcap
  obtain ⟨b0, b1, b2, b3⟩ := h.blk.c4
  clear h hd
  obtain ⟨m', hm'⟩ : ∃ m', m' = min m 60 := ⟨_, rfl⟩
  obtain ⟨q', hq'⟩ : ∃ q', q' = min q 200 := ⟨_, rfl⟩
  rw [← hm', ← hq'] at HC
  obtain ⟨bs', hbs'⟩ : ∃ z, z = bs.take m' := ⟨_, rfl⟩
  obtain ⟨pk', hpk'⟩ : ∃ z, z = pk.take q' := ⟨_, rfl⟩
  rw [← hbs', ← hpk'] at HC
  have HM := Lib.hid hm'
  have HQ := Lib.hid hq'
  clear hm' hq' hbs' hpk'
  go_enter Try.func34, Try.ntmps34
  go_upto_if 9 with fail
  go_cut [3] (fun v wx => v = .pointer (some ⟨w.heap.size, 0, none⟩) ∧ wx = w.alloc (.cells #[.int .i64 0, .slice P np cp, .int .i64 a, .slice B m' c, .slice Q q dq] 62))
  case first =>
    by_cases h60 : 60 < m
    · have z1 : decide (60 < m) = true := decide_eq_true h60
      have z2 : decide ((60 : Int) < (m : Int)) = true := decide_eq_true (by omega)
      have i1 : 60 ≤ c := by omega
      have HE := Lib.hid (show 60 = m' by have := HM.out; omega)
      go_wp2_with fail
      all_goals first | (exfalso; omega) | (go_meet; exact ⟨rfl, by rw [← HE.out]⟩)
    · have z1 : decide (60 < m) = false := decide_eq_false h60
      have z2 : decide ((60 : Int) < (m : Int)) = false := decide_eq_false (by omega)
      have HE := Lib.hid (show m = m' by have := HM.out; omega)
      go_wp2_with fail
      all_goals first | (exfalso; omega) | (go_meet; exact ⟨rfl, by rw [← HE.out]⟩)
  case rest =>
    obtain ⟨rfl, hwc⟩ := hcut
    subst hwc
    go_upto_if 17 with fail
    go_cut [3] (fun v wx => v = .pointer (some ⟨w.heap.size, 0, none⟩) ∧ wx = w.alloc (.cells #[.int .i64 0, .slice P np cp, .int .i64 a, .slice B m' c, .slice Q q' dq] 62))
    case first =>
      by_cases h60 : 200 < q
      · have z1 : decide (200 < q) = true := decide_eq_true h60
        have z2 : decide ((200 : Int) < (q : Int)) = true := decide_eq_true (by omega)
        have i1 : 200 ≤ dq := by omega
        have HE := Lib.hid (show 200 = q' by have := HQ.out; omega)
        go_wp2_with fail
        all_goals first | (exfalso; omega) | (go_meet; exact ⟨rfl, by rw [← HE.out]⟩)
      · have z1 : decide (200 < q) = false := decide_eq_false h60
        have z2 : decide ((200 : Int) < (q : Int)) = false := decide_eq_false (by omega)
        have HE := Lib.hid (show q = q' by have := HQ.out; omega)
        go_wp2_with fail
        all_goals first | (exfalso; omega) | (go_meet; exact ⟨rfl, by rw [← HE.out]⟩)
    case rest =>
      obtain ⟨rfl, hwc⟩ := hcut
      obtain ⟨w1, hw1⟩ : ∃ w1, w1 = w.alloc (.cells #[.int .i64 0, .slice P np cp, .int .i64 a, .slice B m' c, .slice Q q' dq] 62) := ⟨_, rfl⟩
      have g1 : Grow w w1 := by rw [hw1]; exact (Grow.refl w).alloc _
      have NB := Row.new w 62 [.int .i64 0, .slice P np cp, .int .i64 a, .slice B m' c, .slice Q q' dq] _ rfl
      rw [← hw1] at hwc NB
      subst hwc
      obtain ⟨g, hg⟩ : ∃ g, g = w.heap.size := ⟨_, rfl⟩
      rw [← hg] at NB ⊢
      obtain ⟨d0, d1, d2, d3, d4⟩ := NB.1.c5
      have hgx : ¬ x.F g := fun q => by have := H.out.lg.1.lt g q; omega
      have hgy : ¬ y.F g := fun q => by have := H.out.rl.1.lt g q; omega
      have H1 := Lib.hid (H.out.keep g1)
      have D1 := Lib.hid (HC.out.keep g1)
      have P1 := Lib.hid (HD.out.pats.keep g1)
      have HW := Lib.hid (fewP_wide (k := 6) (m := 40) HD.out.wide)
      have G1 := Lib.hid g1
      replace b0 := g1.cell b0
      replace b1 := g1.cell b1
      replace b2 := g1.cell b2
      replace b3 := g1.cell b3
      have hb1 : base ≤ wc.heap.size := Nat.le_trans hb g1.size
      clear NB hw1 hg g1 HC HM HQ hcap hpcap
      go_wp2_with fail
      refine (little_c P1.out).mono ?_
      rintro e w2 ⟨v2, rfl, o2, g2⟩
      have hfl := fewP_length 6 40 L
      obtain ⟨K, hK⟩ : ∃ K, K = fewP 6 40 L := ⟨_, rfl⟩
      rw [← hK] at o2 HW hfl
      have hfree : ∀ g', v2.ownBlock = some g' → ¬ x.F g' := fun g' q1 q2 => by have := (World.ownsRow.lt o2 g' q1).1; have := H1.out.lg.1.lt g' q2; omega
      obtain ⟨A2, c2, rfl, -, r2⟩ := o2.rp (by omega)
      obtain ⟨n2, hn2⟩ : ∃ n2, n2 = K.length := ⟨_, rfl⟩
      rw [← hn2] at r2 hfree hfl ⊢
      have R2 := Lib.hid r2
      have HK := Lib.hid hK
      have HFR := Lib.hid (show 0 < n2 → ∀ p, A2 = some p → ¬ x.F p.block from fun _ p hp => hfree _ (by rw [hp]; rfl))
      have H2 := Lib.hid (H1.out.keep g2)
      have G2 := Lib.hid (G1.out.trans g2)
      have hb2 : base ≤ w2.heap.size := Nat.le_trans hb1 g2.size
      replace b1 := g2.cell b1
      replace b3 := g2.cell b3
      clear o2 r2 g2 hK hn2 hfree b0 b2 d0 d1 d2 d3 d4
      go_wp2_with fail
      go_region_held3 (fun w' => w'.cell? ⟨pb, 1, none⟩ = some (.pointer (some ⟨l, 0, none⟩)) ∧ w'.cell? ⟨pb, 3, none⟩ = some (.pointer (some ⟨d, 0, none⟩))) (first | exact ⟨b1, b3⟩ | exact hsA | exact hsB) ((first
        | (go_at_call 25; go_loud (refine (pl_append (H2.out.lg.keep ?_) (R2.out.keep ?_) HW.out).mono ?_; (repeat (first | exact Grow.refl _ | refine Grow.drew ?_ | refine Grow.drewN ?_ _)); rintro e w4 ⟨rfl, h4, t4'⟩; have t4 : Turn x.F w2 w4 := (Turn.grow (show Grow w2 _ by (repeat (first | exact Grow.refl _ | refine Grow.drew ?_ | refine Grow.drewN ?_ _))) x.F).and t4'; have hsA : w4.cell? ⟨pb, 1, none⟩ = some (.pointer (some ⟨l, 0, none⟩)) ∧ w4.cell? ⟨pb, 3, none⟩ = some (.pointer (some ⟨d, 0, none⟩)) := ⟨(H2.out.blk1 t4).c4.2.1, (H2.out.blk1 t4).c4.2.2.2⟩; clear t4'))
        | (go_at_call 26; go_loud (refine (rl_append ((H2.out.rl1 t4).keep ?_) ((R2.out.turn t4 HFR.out).keep ?_) HW.out).mono ?_; (repeat (first | exact Grow.refl _ | refine Grow.drew ?_ | refine Grow.drewN ?_ _)); rintro e w5 ⟨rfl, h5, t5'⟩; have t5 : Turn y.F w4 w5 := (Turn.grow (show Grow w4 _ by (repeat (first | exact Grow.refl _ | refine Grow.drew ?_ | refine Grow.drewN ?_ _))) y.F).and t5'; have hsB : w5.cell? ⟨pb, 1, none⟩ = some (.pointer (some ⟨l, 0, none⟩)) ∧ w5.cell? ⟨pb, 3, none⟩ = some (.pointer (some ⟨d, 0, none⟩)) := ⟨((H2.out.blk1 t4).turn t5 H2.out.yp).c4.2.1, ((H2.out.blk1 t4).turn t5 H2.out.yp).c4.2.2.2⟩; clear t5'))))
      all_goals
        have X := Lib.hid (H2.out.doneS hb2 h4 t4 h5 t5 G2.out hb)
        clear h4 t4 h5 t5 hsA hsB b1 b3
        go_wp2_with fail
        go_ret
        exact ⟨ret_bool (by simp), by rw [← HK.out]; exact X.out⟩
theorem does8_0 {w : World} {base pb l d : Nat} {x y : MB} {s : MS} (h : PX w base pb l d x y s) (hb : base ≤ w.heap.size) {np cp m c q dq : Nat} {P B Q : Option Addr} {L : List PT} {a : Int} {bs : List UInt8} {pk : List Int} (hd : DA w base P np L a B m c bs Q q dq pk) :
    Calls Try.prog 34 #[.pointer (some ⟨pb, 0, none⟩), .agg #[.int .i64 0, .slice P np cp, .int .i64 a, .slice B m c, .slice Q q dq]] w fun e w' => e = .returned (.bool true) ∧ Done8 w w' base pb l d x.p y := by
  refine (does8_0s h hb hd).mono ?_
  rintro e w' ⟨rfl, h1⟩
  exact ⟨rfl, h1.done⟩
end Go.Proofs.Ytncjfljmnkfghaa
