/- The walk of the statement TxnMany. No statement of the seat is proved here. -/
import Derived.Test.YtlinlmimakealaaZ20
import Derived.Test.YtlinlmimakealaaZ22
import Derived.Deep.CutBlock
import Derived.Deep.DeepCutAuto
namespace Go.Proofs.Ytlinlmimakealaa
open Go.RowKit

/-- The program's side of a pair. -/
structure TP (W w : World) (pb l t py d px : Nat) (x : MB) (s : MS) (L : List PT) (v : Value) : Prop where
  tx : TX w W.heap.size t l x s L v
  p : x.p = px
  blk : Blk w pb [.pointer (some ⟨px, 0, none⟩), .pointer (some ⟨l, 0, none⟩), .pointer (some ⟨t, 0, none⟩), .pointer (some ⟨py, 0, none⟩), .pointer (some ⟨d, 0, none⟩)]
  xp : ¬ TF t x v pb
  xb : ∀ k, TF t x v k → W.heap.size ≤ k
  g : Grow W w
section
variable {W w w' : World} {pb l t dl d px py : Nat} {x x' y : MB} {s s' : MS} {L L' : List PT} {v v' v1 : Value} {F : Nat → Prop}
theorem PY.tp (h : PY w W.heap.size pb l t dl d x y s L v v') (g : Grow W w) : TP W w pb l t y.p d x.p x s L v := ⟨h.tx, rfl, h.blk, h.xp, h.xb, g⟩
theorem TP.keep (h : TP W w pb l t py d px x s L v) (k : Grow w w') : TP W w' pb l t py d px x s L v := ⟨h.tx.keep k, h.p, h.blk.keep k, h.xp, h.xb, h.g.trans k⟩
theorem TP.step (h : TP W w pb l t py d px x s L v) (h1 : TX w' W.heap.size t l x' s' L' v1) (k : Turn (TF t x v) w w') (hx : x'.p = x.p) (n : ∀ i, TF t x' v1 i → TF t x v i ∨ w.heap.size ≤ i) : TP W w' pb l t py d px x' s' L' v1 :=
  ⟨h1, hx.trans h.p, h.blk.turn k h.xp, fun q => (n _ q).elim h.xp fun q => by have := h.blk.1; omega, fun i q => (n i q).elim (h.xb i) fun q => Nat.le_trans h.g.size q, h.g.low (k.low h.xb h.g.size)⟩
theorem TP.turn (h : TP W w pb l t py d px x s L v) (k : Turn F w w') (hF : ∀ i, F i → ¬ TF t x v i ∧ i ≠ l ∧ i ≠ pb ∧ W.heap.size ≤ i) : TP W w' pb l t py d px x s L v :=
  ⟨h.tx.turn k fun i q => ⟨(hF i q).1, (hF i q).2.1⟩, h.p, h.blk.turn k fun q => (hF _ q).2.2.1 rfl, h.xp, h.xb, h.g.low (k.low (fun i q => (hF i q).2.2.2) h.g.size)⟩
theorem tp_store (h : TP W w pb l t py d px x s L v) {B : Option Addr} {m c : Nat} {bs : List UInt8} (hs : Sl w B m bs) (hB : 0 < m → ∀ p, B = some p → ¬ TF t x v p.block) (a : Int) :
    Calls Try.prog 9 #[.pointer (some ⟨t, 0, none⟩), .int .i64 a, .slice B m c] w fun e w' => e = .returned (.int .i64 (errV (stO L a m))) ∧ ∃ v', TP W w' pb l t py d px x s (stL L a bs) v' ∧ Turn (TF t x v) w w' ∧ ∀ i, TF t x v' i → TF t x v i ∨ w.heap.size ≤ i := by
  refine (tx_store h.tx h.g.size hs (fun h0 p hp => ⟨fun k => hB h0 p hp (.inr (.inr k)), fun k => hB h0 p hp (.inr (.inl k))⟩) a).mono ?_
  rintro e w' ⟨rfl, v1, h1, t1, n1⟩
  have t2 : Turn (TF t x v) w w' := t1.mono fun i k => .inr k
  exact ⟨rfl, v1, h.step h1 t2 rfl (tf_store n1), t2, tf_store n1⟩
theorem tp_commit (h : TP W w pb l t py d px x s L v) :
    Calls Try.prog 15 #[.pointer (some ⟨t, 0, none⟩)] w fun e w' => e = .returned (.int .i64 (cmE s L)) ∧ ∃ v', TP W w' pb l t py d px x (cmS s L) (cmL s L) v' ∧ Turn (TF t x v) w w' ∧ ∀ i, TF t x v' i → TF t x v i := by
  refine (tx_commit h.tx).mono ?_
  rintro e w' ⟨rfl, v1, h1, t1, n1⟩
  have t2 : Turn (TF t x v) w w' := t1.mono fun i k => k.elim tf_mem (fun e => .inr (.inl e))
  exact ⟨rfl, v1, h.step h1 t2 rfl (fun i q => .inl (tf_drop n1 i q)), t2, tf_drop n1⟩
end
def cutB (bs : List UInt8) (i : Nat) : PT := ⟨(i : Int), ⟨bs.toArray⟩⟩
def manyL (bs : List UInt8) (i : Nat) : List PT := (List.range (min i 64)).map (cutB bs)
theorem manyL_length (bs : List UInt8) (i : Nat) : (manyL bs i).length = min i 64 := by simp [manyL]
theorem many_step {bs : List UInt8} (hb : bs.length ≤ 3) {i : Nat} (hi : i < 71) : stO (manyL bs i) (i : Int) bs.length = decide (i < 64) ∧ stL (manyL bs i) (i : Int) bs = manyL bs (i + 1) := by
  have hin : inW 1024 (i : Int) (bs.length : Int) = true := inW_iff.2 ⟨by omega, by omega, by omega⟩
  have h1 : stO (manyL bs i) (i : Int) bs.length = decide (i < 64) := by
    unfold stO
    rw [hin, manyL_length, decide_eq_true (show bs.length ≤ 256 by omega), Bool.true_and, Bool.true_and]
    by_cases h : i < 64
    · rw [decide_eq_true h, decide_eq_true (by omega)]
    · rw [decide_eq_false h, decide_eq_false (by omega)]
  refine ⟨h1, ?_⟩
  unfold stL
  rw [h1]
  by_cases h : i < 64
  · rw [decide_eq_true h, if_pos rfl]
    unfold manyL
    rw [Nat.min_eq_left (by omega), Nat.min_eq_left (by omega), List.range_succ, List.map_append]
    rfl
  · rw [decide_eq_false h]
    simp only [Bool.false_eq_true, if_false]
    unfold manyL
    rw [Nat.min_eq_right (by omega), Nat.min_eq_right (by omega)]
theorem many_get {bs : List UInt8} {n i : Nat} {r : PT} (h : (manyL bs n)[i]? = some r) : r = cutB bs i := by
  have hi : i < (manyL bs n).length := (List.getElem?_eq_some_iff.1 h).1
  rw [manyL_length] at hi
  unfold manyL at h
  rw [List.getElem?_map, List.getElem?_range (by omega)] at h
  simpa using h.symm
def ManyInv (W w : World) (pb l t py d px : Nat) (x : MB) (bs : List UInt8) (n : Nat) (u : Value) : Prop := ∃ (i : Nat) (v : Value), u = .int .i64 (i : Int) ∧ i ≤ n ∧ TP W w pb l t py d px x fresh (manyL bs i) v
def LookInv (w wr : World) (m : Nat) (u : Value) : Prop := ∃ i : Nat, u = .int .i64 (i : Int) ∧ i ≤ m ∧ Grow w wr

set_option maxHeartbeats 8000000 in
set_option maxRecDepth 8000 in
theorem law_TxnMany (z : Int) (B : Option Addr) (m c : Nat) (bs0 : List UInt8) (W : World) (hs1 : -9223372036854775808 ≤ z) (hs2 : z ≤ 9223372036854775807) (hn : bs0.length = m) (hr : RB W W.heap.size B bs0) (hc : m ≤ c) :
    Calls Try.prog 3 #[.int .i64 z, .slice B m c] W fun e w' => e = .returned (.bool true) ∧ Below W.heap.size W w' := by
  have HS0 := Lib.hid (show Sl W B (min m 3) (bs0.take (min m 3)) from Sl.ofTake hr (by omega) (by omega))
  obtain ⟨bs, hbs⟩ : ∃ z, z = bs0.take (min m 3) := ⟨_, rfl⟩
  obtain ⟨mb, hmb⟩ : ∃ z, z = min m 3 := ⟨_, rfl⟩
  rw [← hbs, ← hmb] at HS0
  have HMB := Lib.hid hmb
  have hm3 : mb ≤ 3 := by omega
  have HLB := Lib.hid (show 0 < mb → ∀ p, B = some p → p.block < W.heap.size from fun h0 p hp => by
    obtain ⟨b, o, e, hb, -⟩ := hr.2 (by omega)
    rw [e] at hp; injection hp with hp; subst hp; exact hb)
  clear hr hn hbs hmb
  go_enter Try.func3, Try.ntmps3
  go_wp2_with fail
  refine (begin9 W).mono ?_
  rintro e w1 ⟨pb, l, t, dl, d, x, y, rfl, hp, -, -, -, g1⟩
  have HP := Lib.hid (hp.tp g1)
  obtain ⟨px, hpx⟩ : ∃ z, z = x.p := ⟨_, rfl⟩
  obtain ⟨py, hpy⟩ : ∃ z, z = y.p := ⟨_, rfl⟩
  rw [← hpx, ← hpy] at HP
  clear hp g1 hpx hpy
  go_upto_if 15 with fail
  go_cut [0] (fun u wx => ∃ k : Nat, u = .int .i64 (k : Int) ∧ (k : Int) ≤ 9223372036854775807 ∧ wx = w1)
  case first =>
    by_cases hneg : z < 0
    · have e1 : wrap64 (z + 1) = z + 1 := IntWalk.wrap64_in _ (by omega)
      have e2 : wrap64 (-(z + 1)) = -(z + 1) := IntWalk.wrap64_in _ (by omega)
      have hb : decide (z < 0) = true := decide_eq_true hneg
      go_wp2_with fail
      all_goals first | (exfalso; omega) | (go_meet; exact ⟨(-(z + 1)).toNat, by rw [Int.toNat_of_nonneg (by omega)], by omega, rfl⟩)
    · have hb : decide (z < 0) = false := decide_eq_false hneg
      go_wp2_with fail
      all_goals first | (exfalso; omega) | (go_meet; exact ⟨z.toNat, by rw [Int.toNat_of_nonneg (by omega)], by omega, rfl⟩)
  case rest =>
    obtain ⟨k0, rfl, hk0, hwc⟩ := hcut
    have hwc' := hwc.symm
    subst hwc'
    obtain ⟨n, hn⟩ : ∃ n, n = k0 % 71 := ⟨_, rfl⟩
    have hn71 : n < 71 := by rw [hn]; exact Nat.mod_lt _ (by decide)
    have t1 : Int.tmod (k0 : Int) 71 = (n : Int) := by rw [Int.tmod_eq_emod_of_nonneg (by omega)]; omega
    have t2 : (k0 : Int) % 71 = (n : Int) := by omega
    clear hn
    go_upto_if 23 with fail
    go_cut [0, 1] (fun u b wx => u = .int .i64 (n : Int) ∧ b = .slice B mb c ∧ wx = w1)
    case first =>
      clear hk0
      by_cases h3 : 3 < m
      · have z1 : decide (3 < m) = true := decide_eq_true h3
        have z2 : decide ((3 : Int) < (m : Int)) = true := decide_eq_true (by omega)
        have HE := Lib.hid (show 3 = mb by have := HMB.out; omega)
        have i1 : 3 ≤ c := by omega
        go_wp2_with fail
        all_goals first | (exfalso; omega) | (go_meet; exact ⟨rfl, by rw [← HE.out], rfl⟩)
      · have z1 : decide (3 < m) = false := decide_eq_false h3
        have z2 : decide ((3 : Int) < (m : Int)) = false := decide_eq_false (by omega)
        have HE := Lib.hid (show m = mb by have := HMB.out; omega)
        go_wp2_with fail
        all_goals first | (exfalso; omega) | (go_meet; exact ⟨rfl, by rw [← HE.out], rfl⟩)
    case rest =>
      obtain ⟨rfl, rfl, hwc⟩ := hcut
      have hwc' := hwc.symm
      subst hwc'
      clear t1 t2 hk0 hs1 hs2
      go_wp2_with fail
      go_loopw [6] (fun u wr => ManyInv W wr pb l t py d px x bs n u) (fun u _ => n - (intOf u).toNat)
      case atStart => exact ⟨0, _, rfl, Nat.zero_le _, HP.out⟩
      case round =>
        obtain ⟨i, v, rfl, hi, htp⟩ := hrel
        have HTP := Lib.hid htp
        have c2 := htp.blk.c5.2.2.1
        have hbl := HS0.out.1
        clear htp
        by_cases hlt : i < n
        · have HST := Lib.hid (many_step (bs := bs) (by omega) (show i < 71 by omega))
          go_wp2_with fail
          refine (tp_store HTP.out (HS0.out.keep HTP.out.g) (fun h0 p hp k => by have := HLB.out h0 p hp; have := HTP.out.xb _ k; omega) (i : Int)).mono ?_
          rintro e w2 ⟨rfl, v2, h2, t2, -⟩
          rw [HST.out.2] at h2
          rw [← hbl, HST.out.1]
          have X : ManyInv W w2 pb l t py d px x bs n (.int .i64 ((i : Int) + 1)) := ⟨i + 1, v2, by simp, hlt, h2⟩
          have HX := Lib.hid X
          clear X h2 t2 c2
          by_cases h64 : i < 64
          · have z1 : decide (i < 64) = true := decide_eq_true h64
            have z2 : decide ((i : Int) < 64) = true := decide_eq_true (by omega)
            rw [z1, show errV true = 0 from rfl]
            go_wp2_with fail
            go_roundw
            have e5 : wrap64 ((i : Int) + 1) = (i : Int) + 1 := IntWalk.wrap64_in _ (by omega)
            case rel => (try rw [e5]); first | exact HX.out | ((repeat apply Exists.intro); exact HX.out) | ((repeat apply Exists.intro); refine ⟨HX.out, ?_⟩; rfl)
            case measure => (have e5 : wrap64 ((i : Int) + 1) = (i : Int) + 1 := IntWalk.wrap64_in _ (by omega)); first | exact measF hlt | (rw [e5]; exact measF hlt) | (simp [intOf]; omega) | (rw [e5]; simp [intOf]; omega)
          · have z1 : decide (i < 64) = false := decide_eq_false h64
            have z2 : decide ((i : Int) < 64) = false := decide_eq_false (by omega)
            rw [z1, show errV false = 1 from rfl]
            go_wp2_with fail
            go_roundw
            have e5 : wrap64 ((i : Int) + 1) = (i : Int) + 1 := IntWalk.wrap64_in _ (by omega)
            case rel => (try rw [e5]); first | exact HX.out | ((repeat apply Exists.intro); exact HX.out) | ((repeat apply Exists.intro); refine ⟨HX.out, ?_⟩; rfl)
            case measure => (have e5 : wrap64 ((i : Int) + 1) = (i : Int) + 1 := IntWalk.wrap64_in _ (by omega)); first | exact measF hlt | (rw [e5]; exact measF hlt) | (simp [intOf]; omega) | (rw [e5]; simp [intOf]; omega)
        · have hin : i = n := by omega
          subst hin
          obtain ⟨q, hq⟩ : ∃ q, q = min i 64 := ⟨_, rfl⟩
          have HQ := Lib.hid hq
          have HLN := Lib.hid (show (manyL bs i).length = q by rw [manyL_length, hq])
          clear hq
          go_wp2_with fail
          refine (tx_patches HTP.out.tx).mono ?_
          rintro e w3 ⟨A3, c3, rfl, o3, g3⟩
          obtain ⟨A3', c3', e3, -, r3⟩ := o3.rp (by rw [HLN.out]; have := HQ.out; omega)
          injection e3 with e31 e32 e33
          subst e31
          rw [HLN.out] at r3 ⊢
          have R3 := Lib.hid r3
          have G3 := Lib.hid (HTP.out.g.trans g3)
          clear o3 r3 g3 c2 e32 e33
          go_upto_if 58 with fail
          go_cut [9] (fun u wx => u = .int .i64 (q : Int) ∧ wx = w3)
          case first =>
            by_cases h64 : 64 < i
            · have z1 : decide (64 < i) = true := decide_eq_true h64
              have z2 : decide ((64 : Int) < (i : Int)) = true := decide_eq_true (by omega)
              have HE := Lib.hid (show q = 64 by have := HQ.out; omega)
              go_wp2_with fail
              all_goals first | (exfalso; omega) | (go_meet; exact ⟨by rw [HE.out]; rfl, rfl⟩)
            · have z1 : decide (64 < i) = false := decide_eq_false h64
              have z2 : decide ((64 : Int) < (i : Int)) = false := decide_eq_false (by omega)
              have HE := Lib.hid (show i = q by have := HQ.out; omega)
              go_wp2_with fail
              all_goals first | (exfalso; omega) | (go_meet; exact ⟨by rw [← HE.out], rfl⟩)
          case rest =>
            obtain ⟨rfl, hwc⟩ := hcut
            have hwc' := hwc.symm
            subst hwc'
            have hq64 : q ≤ 64 := by have := HQ.out; omega
            go_wp2_with fail
            go_loopw [10] (fun u wx => LookInv w3 wx q u) (fun u _ => q - (intOf u).toNat)
            case atStart => exact ⟨0, rfl, Nat.zero_le _, Grow.refl _⟩
            case round =>
              obtain ⟨j, rfl, hj, hg⟩ := hrel
              have HG := Lib.hid hg
              clear hg
              by_cases hlt2 : j < q
              · obtain ⟨b, o, r, hrk, rfl, hb, d0, d1⟩ := (R3.out.keep HG.out).at_ hlt2
                have hr := many_get hrk
                subst hr
                simp only [cutB] at d0 d1
                have S4 := (HS0.out.keep (G3.out.trans HG.out))
                have cv := fun k => conv_s (c := c) (S4.drewN k)
                have cv0 := conv_s (c := c) S4
                have cvd := conv_s (c := c) S4.drew
                clear hrk S4
                go_wp2_with fail
                go_quiet (fail)
                go_wp2_with fail
                go_roundw
                have e5 : wrap64 ((j : Int) + 1) = (j : Int) + 1 := IntWalk.wrap64_in _ (by omega)
                case rel => (try rw [e5]); exact ⟨j + 1, by simp, hlt2, HG.out.drewN _⟩
                case measure => (have e5 : wrap64 ((j : Int) + 1) = (j : Int) + 1 := IntWalk.wrap64_in _ (by omega)); first | exact measF hlt2 | exact measFW hlt2 e5
              · have GG := Lib.hid (G3.out.trans HG.out)
                go_wp2_with fail
                refine (txn_none _).mono ?_
                rintro e w5 ⟨rfl, rfl⟩
                go_wp2_with fail
                refine (lives9 _).mono ?_
                rintro e w6 ⟨rfl, g6⟩
                have G6 := Lib.hid (GG.out.trans g6)
                clear g6
                go_wp2_with fail
                go_ret
                exact ⟨rfl, G6.out⟩
end Go.Proofs.Ytlinlmimakealaa
