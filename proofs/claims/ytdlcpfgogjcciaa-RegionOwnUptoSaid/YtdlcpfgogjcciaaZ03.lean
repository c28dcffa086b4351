/- Which bytes a client may reach. Of what was there only some blocks have turned. A whole variable of many cells read and written at once, by its cells. A part of a block, read and written at once. No statement of the seat is proved here. -/
import Derived.Test.YtdlcpfgogjcciaaZ01
import Derived.Test.YtdlcpfgogjcciaaZ02
import Derived.Deep.CutBlock
import Derived.Deep.DeepCutAuto
import Derived.Deep.MidRow
import Derived.Great.BuildSlice
import Derived.Great.Walk
import Derived.Laws.ResultCell
namespace Go.Proofs.Ytdlcpfgogjcciaa
open Go.RowKit Go.Shelf

theorem PtAt.below {A B : World} {n b : Nat} {x : Pt} (h : PtAt A b x) (hb : Below n A B) (hlt : b < n) : PtAt B b x := (hb.block b hlt).trans h
theorem find_some {k n a z : Int} (h : (upTo 7).find? (hitB k n) = some ⟨k, n, a, z⟩) (w : World) : Calls Try.prog 82 #[.int .i64 k, .int .i64 n] w fun e w' => e = .returned (.tuple #[.agg #[.int .i64 k, .int .i64 n, .int .i64 a, .int .i64 z], .bool true]) ∧ Grow w w' := by
  refine (find_w k n w).mono ?_
  rintro e w' ⟨rfl, hb⟩
  rw [h]
  exact ⟨rfl, hb⟩
theorem of_wK {q : Int} {o : Option Pt} (h : (upTo 7).find? (ofB q) = o) (w : World) : Calls Try.prog 84 #[.int .i64 q] w fun e w' => (∃ k n a z b, o.getD zeroPt = ⟨k, n, a, z⟩ ∧ e = .returned (.tuple #[.agg #[.int .i64 k, .int .i64 n, .int .i64 a, .int .i64 z], .bool b])) ∧ Grow w w' := by
  refine (of_w q w).mono ?_
  rintro e w' ⟨rfl, hb⟩
  rw [h]
  exact ⟨⟨_, _, _, _, _, rfl, rfl⟩, hb⟩

theorem find_logs {c : Int} (hc : 1 ≤ c ∧ c ≤ 8) : (upTo 7).find? (hitB 6 c) = some ⟨6, c, 6784 + (c - 1) * 1024, 1024⟩ := by
  rw [hit_yes (k := 6) (n := c) (by simp [noneB, stM, numB]; omega)]
  simp [numB, stP, stS]
theorem own_part {c a n : Int} (hc : 1 ≤ c ∧ c ≤ 8) (ha : 0 ≤ a ∧ a < 8589934592) (hn : -8589934592 ≤ n ∧ n < 8589934592) (h0 : 0 < n) : partW (6784 + (c - 1) * 1024) 1024 a n = ownP c a n := by
  have w1 : wrap64 (a - (6784 + (c - 1) * 1024)) = a - (6784 + (c - 1) * 1024) := IntWalk.wrap64_in _ (by omega)
  have w2 : wrap64 (1024 - n) = 1024 - n := IntWalk.wrap64_in _ (by omega)
  rw [Bool.eq_iff_iff]
  simp only [partW, ownP, w1, w2, Bool.and_eq_true, decide_eq_true_eq]
  omega
theorem ownP_no {c a n : Int} (h : ¬ 0 < n) : ownP c a n = false := decide_eq_false fun e => h e.1
/-- The part that a byte of the blocks lies in. -/
theorem rof7 {q : Int} : (rofV q).1 = 7 ↔ 14976 ≤ q ∧ q < 23168 := by
  constructor
  · intro h
    unfold rofV at h
    split at h
    · rename_i j hj
      have h1 := List.find?_some hj
      have h2 : (j : Int) + 1 = 7 := h
      obtain rfl : j = 6 := by omega
      have h3 := of_decide_eq_true h1
      simp only [stP, stM, stS] at h3
      simpa using h3
    · cases h
  · intro h
    have hk : rofK q = some 6 := by
      refine rofK_at (by decide) (fun i hi => ?_) ?_
      · have : i = 0 ∨ i = 1 ∨ i = 2 ∨ i = 3 ∨ i = 4 ∨ i = 5 := by omega
        rcases this with rfl | rfl | rfl | rfl | rfl | rfl <;> (refine decide_eq_false ?_; simp [stP, stM, stS]; omega)
      · refine decide_eq_true ?_
        simp [stP, stM, stS]
        omega
    rw [rofV, hk]
    rfl
theorem rof7n {q : Int} (h : 14976 ≤ q ∧ q < 23168) : (rofV q).2 = (q - 14976) / 64 + 1 := by
  have hk : (rofV q).1 = 7 := rof7.2 h
  unfold rofV at hk ⊢
  split at hk
  · rename_i j hj
    have h2 : (j : Int) + 1 = 7 := hk
    obtain rfl : j = 6 := by omega
    simp [rofN, numB, stP, stS]
  · cases hk
theorem blk_ref {a n : Int} (hn : 1 ≤ n) : (decide ((rofV a).1 = 7) && decide ((rofV (a + n - 1)).1 = 7) && decide ((rofV a).2 = (rofV (a + n - 1)).2)) = dblkP a n := by
  rw [Bool.eq_iff_iff]
  simp only [Bool.and_eq_true, decide_eq_true_eq, dblkP]
  constructor
  · rintro ⟨⟨h1, h2⟩, h3⟩
    rw [rof7n (rof7.1 h1), rof7n (rof7.1 h2)] at h3
    have := rof7.1 h1
    have := rof7.1 h2
    omega
  · rintro ⟨h1, h2, h3⟩
    have e1 : 14976 ≤ a ∧ a < 23168 := by omega
    have e2 : 14976 ≤ a + n - 1 ∧ a + n - 1 < 23168 := by omega
    exact ⟨⟨rof7.2 e1, rof7.2 e2⟩, by rw [rof7n e1, rof7n e2]; omega⟩
theorem of_kind {q : Int} (hq : -9223372036854775808 ≤ q ∧ q ≤ 9223372036854775807) {x : Pt} (h : ((upTo 7).find? (ofB q)).getD zeroPt = x) : (x.k = 7 ↔ 14976 ≤ q ∧ q < 23168) ∧ (x.k = 7 → x.a = 14976 + (q - 14976) / 64 * 64 ∧ x.s = 64) := by
  cases hf : (upTo 7).find? (ofB q) with
  | none =>
    rw [hf] at h
    have e : x = zeroPt := h.symm
    subst e
    have h1 := of_no hq hf
    have h2 : ¬ (14976 ≤ q ∧ q < 23168) := fun k => by
      have := rof7.2 k
      rw [h1] at this
      cases this
    exact ⟨⟨fun k => absurd k (by decide), fun k => absurd k h2⟩, fun k => absurd k (by decide)⟩
  | some y =>
    rw [hf] at h
    have e : y = x := h
    subst e
    obtain ⟨h1, h2, h3⟩ := of_some hq hf
    refine ⟨?_, fun hk => ?_⟩
    · rw [← rof7, h1]
    · obtain ⟨j, hj, i, hi, rfl⟩ := mem_upTo.1 (List.mem_of_find?_eq_some hf)
      have hj6 : j = 6 := by
        have : (j : Int) + 1 = 7 := hk
        omega
      subst hj6
      rw [ofB_iff hq (by decide) hi] at h3
      have hd := div_part (by decide) h3.1 h3.2
      simp only [rP, rS] at hd
      refine ⟨?_, rfl⟩
      show rP 6 + (i : Int) * rS 6 = _
      simp only [rP, rS]
      omega
theorem blk_part {a n k m z s : Int} (ha : 0 ≤ a ∧ a < 8589934592) (hn : 1 ≤ n ∧ n ≤ 64) (h : ((upTo 7).find? (ofB a)).getD zeroPt = ⟨k, m, z, s⟩) : (decide (k = 7) && partW z s a n) = dblkP a n := by
  obtain ⟨h1, h2⟩ := of_kind (by omega) h
  have h1' : k = 7 ↔ 14976 ≤ a ∧ a < 23168 := h1
  have h2' : k = 7 → z = 14976 + (a - 14976) / 64 * 64 ∧ s = 64 := h2
  by_cases hk : k = 7
  · rw [Bool.eq_iff_iff]
    obtain ⟨rfl, rfl⟩ := h2' hk
    have e := h1'.1 hk
    have w1 : wrap64 (a - (14976 + (a - 14976) / 64 * 64)) = a - (14976 + (a - 14976) / 64 * 64) := IntWalk.wrap64_in _ (by omega)
    have w2 : wrap64 (64 - n) = 64 - n := IntWalk.wrap64_in _ (by omega)
    simp only [partW, dblkP, w1, w2, Bool.and_eq_true, decide_eq_true_eq, hk]
    obtain ⟨u, hu⟩ : ∃ u, u = (a - 14976) / 64 := ⟨_, rfl⟩
    have hu1 : 64 * u ≤ a - 14976 := by omega
    have hu2 : a - 14976 < 64 * u + 64 := by omega
    rw [← hu]
    constructor
    · rintro ⟨-, ⟨⟨q1, q2⟩, q3⟩, q4⟩
      refine ⟨e.1, by omega, ?_⟩
      omega
    · rintro ⟨q1, q2, q3⟩
      refine ⟨trivial, ⟨⟨by omega, by omega⟩, hn.2⟩, ?_⟩
      omega
  · have e : ¬ (14976 ≤ a ∧ a < 23168) := fun q => hk (h1'.2 q)
    have f1 : dblkP a n = false := decide_eq_false fun h => e ⟨h.1, by have := h.2.1; omega⟩
    rw [decide_eq_false hk, f1]
    rfl

set_option maxHeartbeats 2000000 in
theorem own_w {c a n : Int} (hc : 1 ≤ c ∧ c ≤ 8) (ha : 0 ≤ a ∧ a < 8589934592) (hn : -8589934592 ≤ n ∧ n < 8589934592) (w : World) :
    Calls Try.prog 55 #[.int .i64 c, .int .i64 a, .int .i64 n] w fun e w' => e = .returned (.bool (ownP c a n)) ∧ Grow w w' := by
  have HF := Lib.hid (find_logs hc)
  by_cases h0 : 0 < n
  · have hp := own_part hc ha hn h0
    have d0 := decide_eq_true h0
    obtain ⟨z, hz⟩ : ∃ z, z = 6784 + (c - 1) * 1024 := ⟨_, rfl⟩
    rw [← hz] at hp HF
    have HP := Lib.hid hp
    clear hz hp hc ha hn
    go_enter Try.func55, Try.ntmps55
    go_wp2_with fail
    refine (find_some HF.out _).mono ?_
    rintro e w1 ⟨rfl, b1⟩
    have p1 := (PtAt.new w1 ⟨6, c, z, 1024⟩).cells
    have G1 := Lib.hid (b1.alloc (.cells #[.int .i64 6, .int .i64 c, .int .i64 z, .int .i64 1024] 113))
    obtain ⟨y1, y2, y3, y4⟩ := p1
    clear b1
    go_wp2_with fail
    refine (in_w ⟨6, c, z, 1024⟩ a n _).mono ?_
    rintro e w2 ⟨rfl, o, rfl⟩
    go_wp2_with fail
    go_ret
    rw [HP.out]
    exact ⟨rfl, G1.out.alloc _⟩
  · have HP := Lib.hid (ownP_no (c := c) (a := a) h0)
    have d0 := decide_eq_false h0
    clear hc ha hn
    go_enter Try.func55, Try.ntmps55
    go_wp2_with fail
    refine (find_some HF.out _).mono ?_
    rintro e w1 ⟨rfl, b1⟩
    have G1 := Lib.hid (b1.alloc (.cells #[.int .i64 6, .int .i64 c, .int .i64 (6784 + (c - 1) * 1024), .int .i64 1024] 113))
    clear b1
    go_wp2_with fail
    go_ret
    rw [HP.out]
    exact ⟨rfl, G1.out⟩

set_option maxHeartbeats 4000000 in
theorem may_w {c a n : Int} (hc : 1 ≤ c ∧ c ≤ 8) (ha : 0 ≤ a ∧ a < 4294967296) (hn : 0 ≤ n ∧ n < 65536) (w : World) :
    Calls Try.prog 57 #[.int .i64 c, .int .i64 a, .int .i64 n] w fun e w' => e = .returned (.bool (mayP c a n)) ∧ Grow w w' := by
  have HB := Lib.hid (fun k m z s (hn : 1 ≤ n ∧ n ≤ 64) (h : ((upTo 7).find? (ofB a)).getD zeroPt = ⟨k, m, z, s⟩) => blk_part (a := a) (n := n) (by omega) hn h)
  have HO := Lib.hid (fun u : World => own_w hc (a := a) (n := n) (by omega) (by omega) u)
  clear hc ha
  go_enter Try.func57, Try.ntmps57
  go_wp2_with fail
  refine (of_wK rfl _).mono ?_
  rintro e w1 ⟨⟨k, m, z, s, fb, hx, rfl⟩, b1⟩
  have HX := Lib.hid hx
  have p1 := (PtAt.new w1 ⟨k, m, z, s⟩).cells
  have G1 := Lib.hid (b1.alloc (.cells #[.int .i64 k, .int .i64 m, .int .i64 z, .int .i64 s] 113))
  obtain ⟨y1, y2, y3, y4⟩ := p1
  clear b1 hx
  go_upto_region 2 with (fail)
  obtain ⟨w2, hw2⟩ : ∃ u, u = w1.alloc (.cells #[.int .i64 k, .int .i64 m, .int .i64 z, .int .i64 s] 113) := ⟨_, rfl⟩
  obtain ⟨g1, hg1⟩ : ∃ u, u = w1.heap.size := ⟨_, rfl⟩
  simp only [← hw2, ← hg1] at y1 y2 y3 y4 G1 ⊢
  clear hw2 hg1
  go_cut [9] (fun v wx => v = .bool (decide (k = 7) && partW z s a n) ∧ Grow w2 wx)
  case first =>
    by_cases hk : k = 7
    · subst hk
      go_wp2_with fail
      refine (in_w ⟨7, m, z, s⟩ a n _).mono ?_
      rintro e w3 ⟨rfl, o, rfl⟩
      go_wp2_with fail
      go_meet
      exact ⟨by simp, (Grow.refl w2).alloc _⟩
    · have z0 : (k == 7) = false := beq_eq_false_iff_ne.2 hk
      have d0 := decide_eq_false hk
      go_wp2_with fail
      go_meet
      exact ⟨by rw [d0]; rfl, Grow.refl _⟩
  case rest =>
    obtain ⟨rfl, g2⟩ := hcut
    have G2 := Lib.hid (G1.out.trans g2)
    clear g2 y1 y2 y3 y4
    by_cases h0 : 0 < n
    · by_cases h1 : n ≤ 64
      · have hb := HB.out k m z s ⟨by omega, h1⟩ HX.out
        have HM := Lib.hid (show mayP c a n = (ownP c a n || dblkP a n) by unfold mayP; rw [decide_eq_true (show 1 ≤ n ∧ n ≤ 64 from ⟨by omega, h1⟩)]; rfl)
        obtain ⟨bl, hbl⟩ : ∃ u, u = dblkP a n := ⟨_, rfl⟩
        rw [hb, ← hbl]
        rw [← hbl] at HM
        have d0 := decide_eq_true h0
        have d1 := decide_eq_true h1
        clear hb hbl
        cases bl with
        | true =>
          go_wp2_with fail
          go_ret
          rw [HM.out]
          exact ⟨by simp, G2.out⟩
        | false =>
          go_wp2_with fail
          refine (HO.out _).mono ?_
          rintro e w3 ⟨rfl, g3⟩
          have G3 := Lib.hid (G2.out.trans g3)
          clear g3
          obtain ⟨ob, hob⟩ : ∃ u, u = ownP c a n := ⟨_, rfl⟩
          rw [← hob]
          rw [← hob] at HM
          clear hob
          cases ob with
          | true =>
            go_wp2_with fail
            go_ret
            rw [HM.out]
            exact ⟨by simp, G3.out⟩
          | false =>
            go_wp2_with fail
            go_ret
            rw [HM.out]
            exact ⟨by simp, G3.out⟩
      · have HM := Lib.hid (show mayP c a n = false by unfold mayP; rw [decide_eq_false (show ¬ (1 ≤ n ∧ n ≤ 64) from fun e => h1 e.2)]; rfl)
        obtain ⟨bl, hbl⟩ : ∃ u, u = (decide (k = 7) && partW z s a n) := ⟨_, rfl⟩
        rw [← hbl]
        have d0 := decide_eq_true h0
        have d1 := decide_eq_false h1
        clear hbl
        go_wp2_with fail
        go_ret
        rw [HM.out]
        exact ⟨by simp, G2.out⟩
    · have HM := Lib.hid (show mayP c a n = false by unfold mayP; rw [decide_eq_false (show ¬ (1 ≤ n ∧ n ≤ 64) from fun e => h0 (by omega))]; rfl)
      obtain ⟨bl, hbl⟩ : ∃ u, u = (decide (k = 7) && partW z s a n) := ⟨_, rfl⟩
      rw [← hbl]
      have d0 := decide_eq_false h0
      clear hbl
      go_wp2_with fail
      go_ret
      rw [HM.out]
      exact ⟨by simp, G2.out⟩

/-! ### the document's -/
set_option maxHeartbeats 4000000 in
theorem rown_w {c a n : Int} (hc : 1 ≤ c ∧ c ≤ 8) (ha : 0 ≤ a ∧ a < 8589934592) (hn : -8589934592 ≤ n ∧ n < 8589934592) (w : World) :
    Calls Try.prog 36 #[.int .i64 c, .int .i64 a, .int .i64 n] w fun e w' => e = .returned (.bool (ownP c a n)) ∧ w = w' := by
  have e1 : wrap64 (c - 1) = c - 1 := IntWalk.wrap64_in _ (by omega)
  have e2 : wrap64 (1024 * (c - 1)) = 1024 * (c - 1) := IntWalk.wrap64_in _ (by omega)
  have e3 : wrap64 (6784 + 1024 * (c - 1)) = 6784 + 1024 * (c - 1) := IntWalk.wrap64_in _ (by omega)
  have e4 : wrap64 (a + n) = a + n := IntWalk.wrap64_in _ (by omega)
  have e5 : wrap64 (6784 + 1024 * (c - 1) + 1024) = 6784 + 1024 * (c - 1) + 1024 := IntWalk.wrap64_in _ (by omega)
  clear hc ha hn
  go_enter Try.func36, Try.ntmps36
  go_wp2
  all_goals (go_ret; refine ⟨ret_bool ?_, rfl⟩)
  all_goals (rw [Bool.eq_iff_iff]; simp [ownP])
  all_goals omega

set_option maxHeartbeats 4000000 in
theorem rmay_w {c a n : Int} (hc : 1 ≤ c ∧ c ≤ 8) (ha : 0 ≤ a ∧ a < 4294967296) (hn : 0 ≤ n ∧ n < 65536) (w : World) :
    Calls Try.prog 38 #[.int .i64 c, .int .i64 a, .int .i64 n] w fun e w' => e = .returned (.bool (mayP c a n)) ∧ w = w' := by
  by_cases h1 : 1 ≤ n ∧ n ≤ 64
  · have HO := Lib.hid (fun u : World => rown_w hc (a := a) (n := n) (by omega) (by omega) u)
    have HF := Lib.hid (fun u : World => rof_w a (by omega) u)
    have HF2 := Lib.hid (fun u : World => rof_w (a + n - 1) (by omega) u)
    have HM := Lib.hid (show mayP c a n = (ownP c a n || (decide ((rofV a).1 = 7) && decide ((rofV (a + n - 1)).1 = 7) && decide ((rofV a).2 = (rofV (a + n - 1)).2))) by rw [blk_ref h1.1]; unfold mayP; rw [decide_eq_true h1]; rfl)
    have d0 : decide (n < 1) = false := decide_eq_false (by omega)
    have d1 : decide (64 < n) = false := decide_eq_false (by omega)
    have e4 : wrap64 (a + n) = a + n := IntWalk.wrap64_in _ (by omega)
    have e5 : wrap64 (a + n - 1) = a + n - 1 := IntWalk.wrap64_in _ (by omega)
    obtain ⟨p, hp⟩ : ∃ z, z = rofV a := ⟨_, rfl⟩
    obtain ⟨q, hq⟩ : ∃ z, z = rofV (a + n - 1) := ⟨_, rfl⟩
    obtain ⟨o, ho⟩ : ∃ z, z = ownP c a n := ⟨_, rfl⟩
    rw [← hp, ← hq, ← ho] at HM
    rw [← hp] at HF
    rw [← hq] at HF2
    rw [← ho] at HO
    clear hp hq ho hc ha hn h1
    obtain ⟨p1, p2⟩ := p
    obtain ⟨q1, q2⟩ := q
    go_enter Try.func38, Try.ntmps38
    go_wp2_with fail
    refine (HF.out _).mono ?_
    rintro e w1 ⟨rfl, rfl⟩
    go_wp2_with fail
    refine (HF2.out _).mono ?_
    rintro e w1 ⟨rfl, rfl⟩
    go_wp2_with fail
    refine (HO.out _).mono ?_
    rintro e w1 ⟨rfl, rfl⟩
    clear HF HF2 HO d0 d1 e4 e5
    cases o with
    | true =>
      go_wp2
      all_goals (go_ret; exact ⟨by rw [HM.out]; simp, rfl⟩)
    | false =>
      go_wp2
      all_goals (go_ret; refine ⟨ret_bool ?_, rfl⟩)
      all_goals rw [HM.out]
      all_goals (rw [Bool.eq_iff_iff]; simp)
      all_goals omega
  · have HM := Lib.hid (show mayP c a n = false by unfold mayP; rw [decide_eq_false h1]; rfl)
    clear hc ha hn
    by_cases h0 : n < 1
    · have d0 := decide_eq_true h0
      go_enter Try.func38, Try.ntmps38
      go_wp2_with fail
      go_ret
      rw [HM.out]
      exact ⟨rfl, rfl⟩
    · have d0 := decide_eq_false h0
      have h64 : 64 < n := by omega
      have d1 := decide_eq_true h64
      go_enter Try.func38, Try.ntmps38
      go_wp2_with fail
      go_ret
      rw [HM.out]
      exact ⟨rfl, rfl⟩
end Go.Proofs.Ytdlcpfgogjcciaa

namespace Go.Proofs.Ytdlcpfgogjcciaa
open Go.RowKit

/-- Of what was there only blocks of F have turned. -/
structure Turn (F : Nat → Prop) (w w' : World) : Prop where
  os : w'.os = w.os
  tape : w'.tape = w.tape
  output : w'.output = w.output
  size : w.heap.size ≤ w'.heap.size
  block : ∀ k, k < w.heap.size → ¬ F k → w'.heap[k]? = w.heap[k]?
section
variable {F G : Nat → Prop} {a b c : World}
theorem Turn.refl (F : Nat → Prop) (w : World) : Turn F w w := ⟨rfl, rfl, rfl, Nat.le_refl _, fun _ _ _ => rfl⟩
theorem Turn.trans (h : Turn F a b) (k : Turn G b c) (hg : ∀ i, G i → F i ∨ a.heap.size ≤ i) : Turn F a c :=
  ⟨k.os.trans h.os, k.tape.trans h.tape, k.output.trans h.output, Nat.le_trans h.size k.size, fun i hi hn =>
    (k.block i (Nat.lt_of_lt_of_le hi h.size) (fun q => (hg i q).elim hn (fun q => by omega))).trans (h.block i hi hn)⟩
theorem Turn.and (h : Turn F a b) (k : Turn F b c) : Turn F a c := h.trans k fun _ q => .inl q
theorem Turn.mono (h : Turn F a b) (hg : ∀ i, F i → G i) : Turn G a b := ⟨h.os, h.tape, h.output, h.size, fun i hi hn => h.block i hi fun q => hn (hg i q)⟩
theorem Turn.grow (h : Grow a b) (F : Nat → Prop) : Turn F a b := ⟨h.os, h.tape, h.output, h.size, fun i hi _ => h.block i hi⟩
theorem Turn.andGrow (h : Turn F a b) (k : Grow b c) : Turn F a c := h.and (Turn.grow k F)
theorem Turn.grown {row : Option Nat} (h : a.grownBy b row) (hr : ∀ j, row = some j → F j) : Turn F a b := ⟨h.os, h.tape, h.output, h.size, fun i hi hn => h.block i hi fun q => hn (hr i q.symm)⟩
theorem Turn.low {B : Nat} (h : Turn F a b) (hF : ∀ i, F i → B ≤ i) (hB : B ≤ a.heap.size) : Below B a b := ⟨h.os, h.tape, h.output, h.size, fun i hi => h.block i (by omega) fun q => by have := hF i q; omega⟩
theorem Turn.setCell (w : World) {p : Addr} (hp : F p.block) (v : Value) : Turn F w (w.setCell p v) := ⟨rfl, rfl, rfl, by simp, fun i _ hn => Below.heap_setCell _ _ _ _ fun e => hn (e ▸ hp)⟩
theorem Turn.cell (h : Turn F a b) {p : Addr} (hp : p.block < a.heap.size) (hn : ¬ F p.block) : b.cell? p = a.cell? p := World.cell?_of_block (h.block _ hp hn)
theorem Turn.frozen (h : Turn F a b) {p : Addr} (hp : p.block < a.heap.size) (hn : ¬ F p.block) : b.frozen? p = a.frozen? p := World.frozen?_of_block (h.block _ hp hn)
end
end Go.Proofs.Ytdlcpfgogjcciaa

namespace Go.Proofs.Ytdlcpfgogjcciaa
open Go.RowKit Go.Great

theorem Blk.range {w : World} {g : Nat} {vs : List Value} (h : Blk w g vs) : w.rangeAt g 0 vs := fun j v hv => by
  have := h.2 j v hv
  simpa using this
theorem Row.there {w : World} {g n : Nat} {vs : List Value} (h : Row w g vs) (hn : n ≤ vs.length) : w.there g 0 n := fun j hj => by
  have h1 := h.1.2 j _ (List.getElem?_eq_getElem (show j < vs.length by omega))
  have h2 := h.2 j (by omega)
  rw [Nat.zero_add]
  exact ⟨by rw [h1]; rfl, h2⟩
theorem setCells_size (g : Nat) : ∀ (vs : List Value) (o : Nat) (w : World), (w.setCells g o vs).heap.size = w.heap.size
  | [], _, _ => rfl
  | v :: vs, o, w => by
    show ((w.setCell ⟨g, o, none⟩ v).setCells g (o + 1) vs).heap.size = _
    rw [setCells_size g vs]
    simp
theorem setCells_turn (g : Nat) : ∀ (vs : List Value) (o : Nat) (w : World), Turn (fun k => k = g) w (w.setCells g o vs)
  | [], _, w => Turn.refl _ w
  | v :: vs, o, w => (Turn.setCell (F := fun k => k = g) w (p := ⟨g, o, none⟩) rfl v).and (setCells_turn g vs (o + 1) _)
theorem Row.setCells {w : World} {g : Nat} {old vs : List Value} (h : Row w g old) (hl : old.length = vs.length) : Row (w.setCells g 0 vs) g vs := by
  have ht := h.there (n := vs.length) (by omega)
  have hr := World.rangeAt_setCells_same w g 0 vs ht
  refine ⟨⟨by rw [setCells_size]; exact h.1.1, fun j v hv => ?_⟩, fun j hj => ?_⟩
  · have := hr j v hv
    simpa using this
  · have := (World.there_setCells ht g 0 vs j hj).2
    simpa using this
section
variable {P : Program} {ops : Array Oper} {rest : List Oper} {o : Oper} {a : Act} {w : World} {Q : Exit → Act → World → Prop}
/-- A whole variable is written. -/
theorem wpList_storeRow (hgd : o.guard = none) (ty : TypeId) (x y : Operand) (ho : o.op = .store ty x y) (hd : o.dst = none)
    (g : Nat) (hx : a.eval x = .pointer (some ⟨g, 0, none⟩)) (vs old : List Value) (hy : a.eval y = .agg vs.toArray) (hr : Row w g old) (hl : old.length = vs.length)
    (hi : (P.info? ty).map (·.size) = some vs.length) (h1 : vs.all (·.oneCell') = true)
    (h : ∀ w', Row w' g vs → Turn (fun k => k = g) w w' → w'.heap.size = w.heap.size → wpList P ops Q rest a w') : wpList P ops Q (o :: rest) a w := by
  refine wpList_store_mid hgd ty x y ho g 0 vs.toArray hx hy (by rw [List.size_toArray]; exact hr.there (by omega)) (by rw [List.size_toArray]; exact hi)
    (all_oneCell_toArray fun v hv => List.all_eq_true.1 h1 v hv) ?_
  rw [hd]
  exact h _ (hr.setCells hl) (setCells_turn g vs 0 w) (setCells_size g vs 0 w)
/-- A whole variable is read. -/
theorem wpList_loadRow (hgd : o.guard = none) (ty : TypeId) (x : Operand) (ho : o.op = .load ty x) (d : Option Tmp) (hd : o.dst = d)
    (g : Nat) (hx : a.eval x = .pointer (some ⟨g, 0, none⟩)) (vs : List Value) (D : TypeDesc) (hr : Blk w g vs)
    (hu : P.underlying ty = some D) (hD : D.isRow = true) (hi : (P.info? ty).map (·.size) = some vs.length)
    (h : wpList P ops Q rest (a.put d (.agg vs.toArray)) w) : wpList P ops Q (o :: rest) a w := by
  subst hd
  exact wpList_load_mid hgd ty x ho g 0 hx vs D hr.range hu hD hi h
/-- A call by its contract, in the midst of a region that is walked by hand. -/
theorem wpList_callC (hg : o.guard = none) (d : Option Tmp) (hd : o.dst = d)
    (f : FuncId) (args : Array Value) (hrun : (execOp a.eval o).run P w = .ok (.enter f args) w) (R : Ending → World → Prop) (hc : Calls P f args w R) (hp : ∀ e w', R e w' → ∃ v, e = .returned v)
    (h : ∀ v w', R (.returned v) w' → wpList P ops Q rest (a.put d v) w') : wpList P ops Q (o :: rest) a w := by
  subst hd
  refine wpList_plain hg fun K hK => ?_
  unfold Oper.wp
  rw [hrun, Oper.upon_enter]
  refine hc.mono fun e w'' hh => ?_
  obtain ⟨v, rfl⟩ := hp _ _ hh
  exact hK _ _ (h v w'' hh)
end
section
variable {P : Program} {ops : Array Oper} {rest : List Oper} {o : Oper} {a : Act} {w : World} {Q : Exit → Act → World → Prop}
/-- The same behind a guard that says yes. -/
theorem wpList_wantK (hw : Region.wanted o (yielded ops a.tmps) = true) (h : ∀ K : Act → World → Prop, (∀ a w, wpList P ops Q rest a w → K a w) → o.wp P a w K Q) : wpList P ops Q (o :: rest) a w :=
  wpList_step fun K hK => by rw [if_pos hw]; exact h K hK
theorem wpList_loadRowG (hw : Region.wanted o (yielded ops a.tmps) = true) (ty : TypeId) (x : Operand) (ho : o.op = .load ty x) (d : Option Tmp) (hd : o.dst = d)
    (g : Nat) (hx : a.eval x = .pointer (some ⟨g, 0, none⟩)) (vs : List Value) (D : TypeDesc) (hr : Blk w g vs)
    (hu : P.underlying ty = some D) (hD : D.isRow = true) (hi : (P.info? ty).map (·.size) = some vs.length)
    (h : wpList P ops Q rest (a.put d (.agg vs.toArray)) w) : wpList P ops Q (o :: rest) a w := by
  subst hd
  exact wpList_wantK hw fun _ hK => wp_load_mid ty x ho g 0 hx vs D hr.range hu hD hi (hK _ _ h)
theorem wpList_callG (hw : Region.wanted o (yielded ops a.tmps) = true) (d : Option Tmp) (hd : o.dst = d)
    (f : FuncId) (args : Array Value) (hrun : (execOp a.eval o).run P w = .ok (.enter f args) w) (R : Ending → World → Prop) (hc : Calls P f args w R) (hp : ∀ e w', R e w' → ∃ v, e = .returned v)
    (h : ∀ v w', R (.returned v) w' → wpList P ops Q rest (a.put d v) w') : wpList P ops Q (o :: rest) a w := by
  subst hd
  refine wpList_wantK hw fun K hK => ?_
  unfold Oper.wp
  rw [hrun, Oper.upon_enter]
  refine hc.mono fun e w'' hh => ?_
  obtain ⟨v, rfl⟩ := hp _ _ hh
  exact hK _ _ (h v w'' hh)
end
/-- A function's statements, one by one. -/
def sndS : Code → Code | .seq _ b => b | c => c
def fstS : Code → Code | .seq a _ => a | c => c
def bodyOf (f : Func) : Code := f.body.getD .skip
/-- A call of this function enters it. -/
def EntersF (f : FuncId) : Prop := ∀ (args : Array Value) (w : World), (callFunc f args).run Try.prog w = .ok (.enter f args) w
theorem entersF {f : FuncId} {fn : Func} {c : Code} (hf : Try.prog.funcs[f]? = some fn) (hn : (fn.name == "runtime.NumGoroutine") = false) (hb : fn.body = some c) : EntersF f := by
  intro args w
  have h1 : ¬ fn.name = "runtime.NumGoroutine" := by simpa using hn
  simp [callFunc, hf, h1, hb]
end Go.Proofs.Ytdlcpfgogjcciaa

namespace Go.Proofs.Ytdlcpfgogjcciaa
open Go.RowKit Go.Great

theorem mid_get {pre mid post : List Value} {j : Nat} (hj : j < mid.length) : (pre ++ (mid ++ post))[pre.length + j]? = mid[j]? := by
  rw [List.getElem?_append_right (by omega), Nat.add_sub_cancel_left, List.getElem?_append_left hj]
theorem mid_set {pre mid post : List Value} {k : Nat} {v : Value} (hk : k < mid.length) : (pre ++ (mid ++ post)).set (pre.length + k) v = pre ++ (mid.set k v ++ post) := by
  rw [List.set_append_right _ _ (by omega), Nat.add_sub_cancel_left, List.set_append_left _ _ hk]
section
variable {w w' : World} {g o : Nat} {pre mid new post : List Value}
theorem Blk.range_mid (h : Blk w g (pre ++ (mid ++ post))) (ho : pre.length = o) : w.rangeAt g o mid := fun j v hv => by
  have hj : j < mid.length := (List.getElem?_eq_some_iff.1 hv).1
  subst ho
  exact h.2 _ v (by rw [mid_get hj]; exact hv)
theorem Blk.cell_mid (h : Blk w g (pre ++ (mid ++ post))) (ho : pre.length = o) {k : Nat} {v : Value} (hv : mid[k]? = some v) : w.cell? ⟨g, o + k, none⟩ = some v := h.range_mid ho k v hv
theorem Row.frozen_mid (h : Row w g (pre ++ (mid ++ post))) (ho : pre.length = o) {k : Nat} (hk : k < mid.length) : w.frozen? ⟨g, o + k, none⟩ = false := h.2 _ (by simp only [List.length_append]; omega)
theorem Row.there_mid (h : Row w g (pre ++ (mid ++ post))) (ho : pre.length = o) {n : Nat} (hn : n ≤ mid.length) : w.there g o n := fun j hj => by
  have h1 := h.1.range_mid ho j _ (List.getElem?_eq_getElem (show j < mid.length by omega))
  exact ⟨by rw [h1]; rfl, h.frozen_mid ho (by omega)⟩
theorem range_sub {a b c : List Value} (h : w.rangeAt g o (a ++ (b ++ c))) {q : Nat} (hq : q = o + a.length) : w.rangeAt g q b := fun j v hv => by
  have hj : j < b.length := (List.getElem?_eq_some_iff.1 hv).1
  subst hq
  rw [Nat.add_assoc]
  exact h _ v (by rw [mid_get hj]; exact hv)
theorem Row.setMid (h : Row w g (pre ++ (mid ++ post))) (ho : pre.length = o) (hl : mid.length = new.length) : Row (w.setCells g o new) g (pre ++ (new ++ post)) := by
  have ht := h.there_mid ho (n := new.length) (by omega)
  have hr := World.rangeAt_setCells_same w g o new ht
  refine ⟨⟨by rw [setCells_size]; exact h.1.1, fun j v hv => ?_⟩, fun j hj => ?_⟩
  · by_cases h1 : j < o
    · rw [World.cell?_setCells_out g new o w ⟨g, j, none⟩ (fun _ _ => .inl h1)]
      refine h.1.2 j v ?_
      rw [List.getElem?_append_left (by omega)] at hv ⊢
      exact hv
    · by_cases h2 : j < o + new.length
      · have e : o + (j - o) = j := by omega
        have := hr (j - o) v (by
          rw [List.getElem?_append_right (by omega), ho, List.getElem?_append_left (by omega)] at hv
          exact hv)
        rwa [e] at this
      · rw [World.cell?_setCells_out g new o w ⟨g, j, none⟩ (fun _ _ => .inr (by show o + new.length ≤ j; omega))]
        refine h.1.2 j v ?_
        rw [List.getElem?_append_right (by omega), List.getElem?_append_right (by omega)] at hv ⊢
        rw [hl]
        exact hv
  · rw [World.frozen?_setCells]
    refine h.2 j ?_
    simp only [List.length_append] at hj ⊢
    omega
theorem Row.setOne (h : Row w g (pre ++ (mid ++ post))) (ho : pre.length = o) {k q : Nat} (hk : k < mid.length) (hq : q = o + k) (v : Value) : Row (w.setCell ⟨g, q, none⟩ v) g (pre ++ (mid.set k v ++ post)) := by
  subst hq ho
  have := h.set (j := pre.length + k) (v := v) (by simp only [List.length_append]; omega)
  rwa [mid_set hk] at this
end
section
variable {P : Program} {ops : Array Oper} {rest : List Oper} {o : Oper} {a : Act} {w : World} {Q : Exit → Act → World → Prop}
/-- A part of a block is read. -/
theorem wpList_loadMid (hgd : o.guard = none) (ty : TypeId) (x : Operand) (ho : o.op = .load ty x) (d : Option Tmp) (hd : o.dst = d)
    (g q : Nat) (hx : a.eval x = .pointer (some ⟨g, q, none⟩)) (vs : List Value) (D : TypeDesc) (hr : w.rangeAt g q vs)
    (hu : P.underlying ty = some D) (hD : D.isRow = true) (hi : (P.info? ty).map (·.size) = some vs.length)
    (h : wpList P ops Q rest (a.put d (.agg vs.toArray)) w) : wpList P ops Q (o :: rest) a w := by
  subst hd
  exact wpList_load_mid hgd ty x ho g q hx vs D hr hu hD hi h
/-- One cell is written. -/
theorem wpList_storeTo (hgd : o.guard = none) (hd : o.dst = none) (w' : World) (hrun : (execOp a.eval o).run P w = .ok .skip w') (h : wpList P ops Q rest a w') : wpList P ops Q (o :: rest) a w := by
  refine wpList_plain hgd fun K hK => ?_
  unfold Oper.wp
  rw [hrun, Oper.upon_skip, hd]
  exact hK _ _ h
/-- A part of a block is written. -/
theorem wpList_storeMid (hgd : o.guard = none) (ty : TypeId) (x y : Operand) (ho : o.op = .store ty x y) (hd : o.dst = none)
    (g q : Nat) (hx : a.eval x = .pointer (some ⟨g, q, none⟩)) (vs : List Value) (hy : a.eval y = .agg vs.toArray) (pre mid post : List Value) (hr : Row w g (pre ++ (mid ++ post))) (hq : pre.length = q) (hl : mid.length = vs.length)
    (hi : (P.info? ty).map (·.size) = some vs.length) (h1 : vs.all (·.oneCell') = true)
    (h : ∀ w', Row w' g (pre ++ (vs ++ post)) → Turn (fun k => k = g) w w' → w'.heap.size = w.heap.size → wpList P ops Q rest a w') : wpList P ops Q (o :: rest) a w := by
  refine wpList_store_mid hgd ty x y ho g q vs.toArray hx hy (by rw [List.size_toArray]; exact hr.there_mid hq (by omega)) (by rw [List.size_toArray]; exact hi)
    (all_oneCell_toArray fun v hv => List.all_eq_true.1 h1 v hv) ?_
  rw [hd]
  exact h _ (hr.setMid hq hl) (setCells_turn g vs q w) (setCells_size g vs q w)
end

end Go.Proofs.Ytdlcpfgogjcciaa
