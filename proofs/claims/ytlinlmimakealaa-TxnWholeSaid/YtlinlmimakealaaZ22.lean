/- commonslaw09.does: Load, and the rest. commonslaw09.does: all kinds. commonslaw09: like, lives. commonslaw09.lives. No statement of the seat is proved here. -/
import Derived.Test.YtlinlmimakealaaZ20
import Derived.Deep.DeepCutAuto
import Derived.Deep.RegionHeld3
import Derived.Test.YtlinlmimakealaaZ21
import Derived.Test.YtlinlmimakealaaZ16
import Derived.Lib.SlBytesConst
namespace Go.Proofs.Ytlinlmimakealaa
open Go.RowKit

set_option maxHeartbeats 8000000 in
set_option maxRecDepth 8000 in
theorem does9_5 {w : World} {base pb l t dl d : Nat} {x y : MB} {s : MS} {L : List PT} {v v' : Value} (h : PY w base pb l t dl d x y s L v v') (hb : base ≤ w.heap.size) {m c q dq : Nat} {B Q : Option Addr} {a n : Int} {bs : List UInt8} {pk : List Int} (hd : DA9 w (PF t d x y v v') n B m c bs Q q dq pk) :
    Calls Try.prog 24 #[.pointer (some ⟨pb, 0, none⟩), .agg #[.int .i64 5, .int .i64 a, .int .i64 n, .slice B m c, .slice Q q dq]] w fun e w' => e = .returned (.bool true) ∧ Done9 w w' base pb l t dl d x.p y s L (PF t d x y v v') := by
  have H := Lib.hid h
  have HC := Lib.hid hd.cut
  have HNB := Lib.hid hd.nb
  have hcap := hd.cap
  have hpcap := hd.pcap
  obtain ⟨b0, b1, b2, b3, b4⟩ := h.blk.c5
  clear h hd
  obtain ⟨m', hm'⟩ : ∃ m', m' = min m 260 := ⟨_, rfl⟩
  obtain ⟨q', hq'⟩ : ∃ q', q' = min q 200 := ⟨_, rfl⟩
  rw [← hm', ← hq'] at HC
  try rw [← hm']
  try rw [← hq']
  obtain ⟨bs', hbs'⟩ : ∃ z, z = bs.take m' := ⟨_, rfl⟩
  obtain ⟨pk', hpk'⟩ : ∃ z, z = pk.take q' := ⟨_, rfl⟩
  rw [← hbs', ← hpk'] at HC
  try rw [← hbs']
  try rw [← hpk']
  have HM := Lib.hid hm'
  have HQ := Lib.hid hq'
  clear hm' hq' hbs' hpk'
  go_enter Try.func24, Try.ntmps24
  go_upto_if 13 with fail
  go_cut [3] (fun v wx => v = .pointer (some ⟨w.heap.size, 0, none⟩) ∧ wx = w.alloc (.cells #[.int .i64 5, .int .i64 a, .int .i64 n, .slice B m' c, .slice Q q dq] 54))
  case first =>
    by_cases h60 : 260 < m
    · have z1 : decide (260 < m) = true := decide_eq_true h60
      have z2 : decide ((260 : Int) < (m : Int)) = true := decide_eq_true (by omega)
      have i1 : 260 ≤ c := by omega
      have HE := Lib.hid (show 260 = m' by have := HM.out; omega)
      go_wp2_with fail
      all_goals first | (exfalso; omega) | (go_meet; exact ⟨rfl, by rw [← HE.out]⟩)
    · have z1 : decide (260 < m) = false := decide_eq_false h60
      have z2 : decide ((260 : Int) < (m : Int)) = false := decide_eq_false (by omega)
      have HE := Lib.hid (show m = m' by have := HM.out; omega)
      go_wp2_with fail
      all_goals first | (exfalso; omega) | (go_meet; exact ⟨rfl, by rw [← HE.out]⟩)
  case rest =>
    obtain ⟨rfl, hwc⟩ := hcut
    subst hwc
    go_upto_if 21 with fail
    go_cut [3] (fun v wx => v = .pointer (some ⟨w.heap.size, 0, none⟩) ∧ wx = w.alloc (.cells #[.int .i64 5, .int .i64 a, .int .i64 n, .slice B m' c, .slice Q q' dq] 54))
    case first =>
      by_cases h60 : 200 < q
      · have z1 : decide (200 < q) = true := decide_eq_true h60
        have z2 : decide ((200 : Int) < (q : Int)) = true := decide_eq_true (by omega)
        have i1 : 200 ≤ dq := by omega
        have HE := Lib.hid (show 200 = q' by have := HQ.out; omega)
        go_wp2_with fail
        all_goals first | (exfalso; omega) | (go_meet; exact ⟨rfl, by rw [← HE.out]⟩)
      · have z1 : decide (200 < q) = false := decide_eq_false h60
        have z2 : decide ((200 : Int) < (q : Int)) = false := decide_eq_false (by omega)
        have HE := Lib.hid (show q = q' by have := HQ.out; omega)
        go_wp2_with fail
        all_goals first | (exfalso; omega) | (go_meet; exact ⟨rfl, by rw [← HE.out]⟩)
    case rest =>
      obtain ⟨rfl, hwc⟩ := hcut
      obtain ⟨w1, hw1⟩ : ∃ w1, w1 = w.alloc (.cells #[.int .i64 5, .int .i64 a, .int .i64 n, .slice B m' c, .slice Q q' dq] 54) := ⟨_, rfl⟩
      have g1 : Grow w w1 := by rw [hw1]; exact (Grow.refl w).alloc _
      have NB := Row.new w 54 [.int .i64 5, .int .i64 a, .int .i64 n, .slice B m' c, .slice Q q' dq] _ rfl
      rw [← hw1] at hwc NB
      subst hwc
      obtain ⟨g, hg⟩ : ∃ g, g = w.heap.size := ⟨_, rfl⟩
      rw [← hg] at NB ⊢
      obtain ⟨d0, d1, d2, d3, d4⟩ := NB.1.c5
      have hgx : ¬ TF t x v g := fun q => by have := H.out.tx.tfl g q; omega
      have hgy : ¬ TF d y v' g := fun q => by have := H.out.rx.tfl g q; omega
      have H1 := Lib.hid (H.out.keep g1)
      have D1 := Lib.hid (HC.out.keep g1)
      have G1 := Lib.hid g1
      replace b0 := g1.cell b0
      replace b1 := g1.cell b1
      replace b2 := g1.cell b2
      replace b3 := g1.cell b3
      replace b4 := g1.cell b4
      have hb1 : base ≤ wc.heap.size := Nat.le_trans hb g1.size
      have HABX := Lib.hid (show 0 < m' → ∀ p, B = some p → ¬ TF t x v p.block from fun h0 p hp k => D1.out.ab h0 p hp (.inl k))
      have HABY := Lib.hid (show 0 < m' → ∀ p, B = some p → ¬ TF d y v' p.block from fun h0 p hp k => D1.out.ab h0 p hp (.inr k))
      have HAQX := Lib.hid (show 0 < q' → ∀ p, Q = some p → ¬ TF t x v p.block from fun h0 p hp k => D1.out.aq h0 p hp (.inl k))
      have HAQY := Lib.hid (show 0 < q' → ∀ p, Q = some p → ¬ TF d y v' p.block from fun h0 p hp k => D1.out.aq h0 p hp (.inr k))
      clear NB hw1 hg g1 HC HM HQ hcap hpcap
      clear b0 b1 b3 d3 d4
      obtain ⟨er, her⟩ : ∃ z, z = errV (inW 1024 a n) := ⟨_, rfl⟩
      obtain ⟨mm, hmm⟩ : ∃ z, z = loadM 128 a n := ⟨_, rfl⟩
      have HER := Lib.hid her
      have HMM := Lib.hid hmm
      clear her hmm
      go_wp2_with fail
      go_region_held3 (fun w' => w'.cell? ⟨pb, 2, none⟩ = some (.pointer (some ⟨t, 0, none⟩)) ∧ w'.cell? ⟨g, 1, none⟩ = some (.int .i64 a) ∧ w'.cell? ⟨g, 2, none⟩ = some (.int .i64 n)) (first | exact ⟨b2, d1, d2⟩ | exact hsA) ((go_at_call 26; go_loud (refine (tx_load (H1.out.tx.keep ?_) a n HNB.out.1 HNB.out.2).mono ?_; (repeat (first | exact Grow.refl _ | refine Grow.drew ?_ | refine Grow.drewN ?_ _)); rintro e w4 ⟨A4, c4, rfl, o4, g4'⟩; have g4 : Grow wc w4 := Grow.trans (by (repeat (first | exact Grow.refl _ | refine Grow.drew ?_ | refine Grow.drewN ?_ _))) g4'; have hsA := And.intro (g4.cell b2) (And.intro (g4.cell d1) (g4.cell d2)); rw [← HER.out, ← HMM.out]; rw [← HMM.out] at o4; have s4 := Lib.hid o4.sl; clear g4' o4)))
      all_goals
        have H4 := Lib.hid (H1.out.keep g4)
        have G4 := Lib.hid (G1.out.trans g4)
        have c5 := g4.cell b4
        have e1 := hsA.2.1
        have e2 := hsA.2.2
        clear g4 hsA b2 b4 d0 d1 d2
        go_wp2_with fail
        go_region_held3 (fun w' => w'.cell? ⟨pb, 4, none⟩ = some (.pointer (some ⟨d, 0, none⟩)) ∧ w'.cell? ⟨g, 1, none⟩ = some (.int .i64 a) ∧ w'.cell? ⟨g, 2, none⟩ = some (.int .i64 n)) (first | exact ⟨c5, e1, e2⟩ | exact hsB) ((go_at_call 52; go_loud (refine (rx_load (H4.out.rx.keep ?_) H4.out.ok.S a n).mono ?_; (repeat (first | exact Grow.refl _ | refine Grow.drew ?_ | refine Grow.drewN ?_ _)); rintro e w5 ⟨A5, c6, rfl, o5, g5'⟩; have g5 : Grow w4 w5 := Grow.trans (by (repeat (first | exact Grow.refl _ | refine Grow.drew ?_ | refine Grow.drewN ?_ _))) g5'; have hsB := And.intro (g5.cell c5) (And.intro (g5.cell e1) (g5.cell e2)); rw [← HER.out, ← HMM.out]; rw [← HMM.out] at o5; have s5 := Lib.hid o5.sl; clear g5' o5)))
        all_goals
          have H5 := Lib.hid (H4.out.keep g5)
          have G5 := Lib.hid (G4.out.trans g5)
          have s4' := Lib.hid (s4.out.keep g5)
          clear g5 hsB c5 e1 e2 s4
          go_wp2_with fail
          refine (same_yes s4'.out s5.out rfl).mono ?_
          rintro e w6 ⟨rfl, n6, hw6⟩
          have g6 : Grow w5 w6 := by rw [hw6]; exact (Grow.refl _).drewN n6
          have H6 := Lib.hid (H5.out.keep g6)
          have G6 := Lib.hid (G5.out.trans g6)
          clear g6 hw6
          go_wp2_with fail
          go_ret
          exact ⟨ret_bool (by simp), x, v, v', rfl, H6.out, Turn.grow G6.out _, fun k z => .inl z⟩
set_option maxHeartbeats 8000000 in
set_option maxRecDepth 8000 in
theorem does9_else {w : World} {base pb l t dl d : Nat} {x y : MB} {s : MS} {L : List PT} {v v' : Value} (h : PY w base pb l t dl d x y s L v v') (hb : base ≤ w.heap.size) {m c q dq : Nat} {B Q : Option Addr} {a n : Int} {bs : List UInt8} {pk : List Int} (hd : DA9 w (PF t d x y v v') n B m c bs Q q dq pk) (k : Int) (hk : k ≠ 0 ∧ k ≠ 1 ∧ k ≠ 2 ∧ k ≠ 3 ∧ k ≠ 4 ∧ k ≠ 5) :
    Calls Try.prog 24 #[.pointer (some ⟨pb, 0, none⟩), .agg #[.int .i64 k, .int .i64 a, .int .i64 n, .slice B m c, .slice Q q dq]] w fun e w' => e = .returned (.bool true) ∧ Done9 w w' base pb l t dl d x.p y s L (PF t d x y v v') := by
  have e0 : (k == 0) = false := by rw [beq_eq_false_iff_ne]; exact hk.1
  have e1 : (k == 1) = false := by rw [beq_eq_false_iff_ne]; exact hk.2.1
  have e2 : (k == 2) = false := by rw [beq_eq_false_iff_ne]; exact hk.2.2.1
  have e3 : (k == 3) = false := by rw [beq_eq_false_iff_ne]; exact hk.2.2.2.1
  have e4 : (k == 4) = false := by rw [beq_eq_false_iff_ne]; exact hk.2.2.2.2.1
  have e5 : (k == 5) = false := by rw [beq_eq_false_iff_ne]; exact hk.2.2.2.2.2
  clear hk
  have H := Lib.hid h
  have HC := Lib.hid hd.cut
  have HNB := Lib.hid hd.nb
  have hcap := hd.cap
  have hpcap := hd.pcap
  obtain ⟨b0, b1, b2, b3, b4⟩ := h.blk.c5
  clear h hd
  obtain ⟨m', hm'⟩ : ∃ m', m' = min m 260 := ⟨_, rfl⟩
  obtain ⟨q', hq'⟩ : ∃ q', q' = min q 200 := ⟨_, rfl⟩
  rw [← hm', ← hq'] at HC
  try rw [← hm']
  try rw [← hq']
  obtain ⟨bs', hbs'⟩ : ∃ z, z = bs.take m' := ⟨_, rfl⟩
  obtain ⟨pk', hpk'⟩ : ∃ z, z = pk.take q' := ⟨_, rfl⟩
  rw [← hbs', ← hpk'] at HC
  try rw [← hbs']
  try rw [← hpk']
  have HM := Lib.hid hm'
  have HQ := Lib.hid hq'
  clear hm' hq' hbs' hpk'
  go_enter Try.func24, Try.ntmps24
  go_upto_if 13 with fail
  go_cut [3] (fun v wx => v = .pointer (some ⟨w.heap.size, 0, none⟩) ∧ wx = w.alloc (.cells #[.int .i64 k, .int .i64 a, .int .i64 n, .slice B m' c, .slice Q q dq] 54))
  case first =>
    by_cases h60 : 260 < m
    · have z1 : decide (260 < m) = true := decide_eq_true h60
      have z2 : decide ((260 : Int) < (m : Int)) = true := decide_eq_true (by omega)
      have i1 : 260 ≤ c := by omega
      have HE := Lib.hid (show 260 = m' by have := HM.out; omega)
      go_wp2_with fail
      all_goals first | (exfalso; omega) | (go_meet; exact ⟨rfl, by rw [← HE.out]⟩)
    · have z1 : decide (260 < m) = false := decide_eq_false h60
      have z2 : decide ((260 : Int) < (m : Int)) = false := decide_eq_false (by omega)
      have HE := Lib.hid (show m = m' by have := HM.out; omega)
      go_wp2_with fail
      all_goals first | (exfalso; omega) | (go_meet; exact ⟨rfl, by rw [← HE.out]⟩)
  case rest =>
    obtain ⟨rfl, hwc⟩ := hcut
    subst hwc
    go_upto_if 21 with fail
    go_cut [3] (fun v wx => v = .pointer (some ⟨w.heap.size, 0, none⟩) ∧ wx = w.alloc (.cells #[.int .i64 k, .int .i64 a, .int .i64 n, .slice B m' c, .slice Q q' dq] 54))
    case first =>
      by_cases h60 : 200 < q
      · have z1 : decide (200 < q) = true := decide_eq_true h60
        have z2 : decide ((200 : Int) < (q : Int)) = true := decide_eq_true (by omega)
        have i1 : 200 ≤ dq := by omega
        have HE := Lib.hid (show 200 = q' by have := HQ.out; omega)
        go_wp2_with fail
        all_goals first | (exfalso; omega) | (go_meet; exact ⟨rfl, by rw [← HE.out]⟩)
      · have z1 : decide (200 < q) = false := decide_eq_false h60
        have z2 : decide ((200 : Int) < (q : Int)) = false := decide_eq_false (by omega)
        have HE := Lib.hid (show q = q' by have := HQ.out; omega)
        go_wp2_with fail
        all_goals first | (exfalso; omega) | (go_meet; exact ⟨rfl, by rw [← HE.out]⟩)
    case rest =>
      obtain ⟨rfl, hwc⟩ := hcut
      obtain ⟨w1, hw1⟩ : ∃ w1, w1 = w.alloc (.cells #[.int .i64 k, .int .i64 a, .int .i64 n, .slice B m' c, .slice Q q' dq] 54) := ⟨_, rfl⟩
      have g1 : Grow w w1 := by rw [hw1]; exact (Grow.refl w).alloc _
      have NB := Row.new w 54 [.int .i64 k, .int .i64 a, .int .i64 n, .slice B m' c, .slice Q q' dq] _ rfl
      rw [← hw1] at hwc NB
      subst hwc
      obtain ⟨g, hg⟩ : ∃ g, g = w.heap.size := ⟨_, rfl⟩
      rw [← hg] at NB ⊢
      obtain ⟨d0, d1, d2, d3, d4⟩ := NB.1.c5
      have hgx : ¬ TF t x v g := fun q => by have := H.out.tx.tfl g q; omega
      have hgy : ¬ TF d y v' g := fun q => by have := H.out.rx.tfl g q; omega
      have H1 := Lib.hid (H.out.keep g1)
      have D1 := Lib.hid (HC.out.keep g1)
      have G1 := Lib.hid g1
      replace b0 := g1.cell b0
      replace b1 := g1.cell b1
      replace b2 := g1.cell b2
      replace b3 := g1.cell b3
      replace b4 := g1.cell b4
      have hb1 : base ≤ wc.heap.size := Nat.le_trans hb g1.size
      have HABX := Lib.hid (show 0 < m' → ∀ p, B = some p → ¬ TF t x v p.block from fun h0 p hp k => D1.out.ab h0 p hp (.inl k))
      have HABY := Lib.hid (show 0 < m' → ∀ p, B = some p → ¬ TF d y v' p.block from fun h0 p hp k => D1.out.ab h0 p hp (.inr k))
      have HAQX := Lib.hid (show 0 < q' → ∀ p, Q = some p → ¬ TF t x v p.block from fun h0 p hp k => D1.out.aq h0 p hp (.inl k))
      have HAQY := Lib.hid (show 0 < q' → ∀ p, Q = some p → ¬ TF d y v' p.block from fun h0 p hp k => D1.out.aq h0 p hp (.inr k))
      clear NB hw1 hg g1 HC HM HQ hcap hpcap
      clear b0 b1 b2 b3 b4 d1 d2 d3 d4
      go_wp2_with fail
      go_ret
      exact ⟨rfl, x, v, v', rfl, H1.out, Turn.grow G1.out _, fun k z => .inl z⟩
end Go.Proofs.Ytlinlmimakealaa

namespace Go.Proofs.Ytlinlmimakealaa
open Go.RowKit

theorem does9 {w : World} {base pb l t dl d : Nat} {x y : MB} {s : MS} {L : List PT} {v v' : Value} (h : PY w base pb l t dl d x y s L v v') (hb : base ≤ w.heap.size) {m c q dq : Nat} {B Q : Option Addr} {a n : Int} {bs : List UInt8} {pk : List Int} (hd : DA9 w (PF t d x y v v') n B m c bs Q q dq pk) (k : Int) :
    Calls Try.prog 24 #[.pointer (some ⟨pb, 0, none⟩), .agg #[.int .i64 k, .int .i64 a, .int .i64 n, .slice B m c, .slice Q q dq]] w fun e w' => e = .returned (.bool true) ∧ ∃ s' L', Done9 w w' base pb l t dl d x.p y s' L' (PF t d x y v v') := by
  by_cases h0 : k = 0
  · subst h0; exact (does9_0 h hb hd).mono fun e w' q => ⟨q.1, _, _, q.2⟩
  by_cases h1 : k = 1
  · subst h1; exact (does9_1 h hb hd).mono fun e w' q => ⟨q.1, _, _, q.2⟩
  by_cases h2 : k = 2
  · subst h2; exact (does9_2 h hb hd).mono fun e w' q => ⟨q.1, _, _, q.2⟩
  by_cases h3 : k = 3
  · subst h3; exact (does9_3 h hb hd).mono fun e w' q => ⟨q.1, _, _, q.2⟩
  by_cases h4 : k = 4
  · subst h4; exact (does9_4 h hb hd).mono fun e w' q => ⟨q.1, _, _, q.2⟩
  by_cases h5 : k = 5
  · subst h5; exact (does9_5 h hb hd).mono fun e w' q => ⟨q.1, _, _, q.2⟩
  exact (does9_else h hb hd k ⟨h0, h1, h2, h3, h4, h5⟩).mono fun e w' q => ⟨q.1, _, _, q.2⟩
end Go.Proofs.Ytlinlmimakealaa

namespace Go.Proofs.Ytlinlmimakealaa
open Go.RowKit

theorem pats_sameG {A A' : Option Addr} {n c c' : Nat} {L : List PT} {w : World} (hx : RP w A n L) (hy : RP w A' n L) (hn : n ≤ 60000) :
    Calls Try.prog 54 #[.slice A n c, .slice A' n c'] w fun e w' => e = .returned (.bool true) ∧ Grow w w' := by
  refine (pats_same hx hy hn).mono ?_
  rintro e w' ⟨rfl, k, rfl⟩
  exact ⟨rfl, (Grow.refl _).drewN k⟩
theorem load_all {s : MS} (h : s.ok) : loadM 128 0 1024 = 1024 ∧ inW 1024 0 1024 = true ∧ loadL 128 s.S 0 1024 = s.S := by
  refine ⟨by decide, by decide, ?_⟩
  unfold loadL
  rw [if_pos (by decide)]
  show (s.S.drop 0).take 1024 = s.S
  rw [List.drop_zero, List.take_of_length_le (by rw [h.S]; exact Nat.le_refl _)]
set_option maxHeartbeats 8000000 in
set_option maxRecDepth 8000 in
theorem like9 {w : World} {base pb l t dl d : Nat} {x y : MB} {s : MS} {L : List PT} {v v' : Value} (h : PY w base pb l t dl d x y s L v v') :
    Calls Try.prog 27 #[.pointer (some ⟨pb, 0, none⟩)] w fun e w' => e = .returned (.bool true) ∧ Grow w w' := by
  have H := Lib.hid h
  obtain ⟨b0, b1, b2, b3, b4⟩ := h.blk.c5
  obtain ⟨La, cs, ct, HL, hL1, hL2, c0, c1, hs, ht⟩ := h.rx.lg.1.eyes2
  have HS := Lib.hid hs
  have HT := Lib.hid ht
  have HLS := Lib.hid (show (s.S.drop 0).take 1024 = s.S by rw [List.drop_zero, List.take_of_length_le (by rw [h.ok.S]; exact Nat.le_refl _)])
  have HLT := Lib.hid (show (s.T.drop 0).take 1024 = s.T by rw [List.drop_zero, List.take_of_length_le (by rw [h.ok.T]; exact Nat.le_refl _)])
  have HLA := Lib.hid (load_all h.ok)
  have hfew := h.tx.held.few
  obtain ⟨Av, cv, rfl, -, rv⟩ := h.rx.row.rp (by omega)
  have RV := Lib.hid rv
  have e2 := h.rx.blk.1.2 2 _ rfl
  clear h hs ht rv b1
  go_enter Try.func27, Try.ntmps27
  go_wp2_with fail
  refine (pm_load H.out.tx.lg.1 0 1024 (by decide)).mono ?_
  rintro e w1 ⟨A1, k1, rfl, o1, g1⟩
  rw [HLS.out] at o1
  have s1 := Lib.hid o1.sl
  have d0 := g1.cell b0
  have G1 := Lib.hid g1
  clear o1 g1 b0
  go_wp2_with fail
  refine (pm_lasts (H.out.tx.lg.1.keep G1.out) 0 1024 (by decide)).mono ?_
  rintro e w2 ⟨A2, k2, rfl, o2, g2⟩
  rw [HLT.out] at o2
  have s2 := Lib.hid o2.sl
  have s1' := Lib.hid (s1.out.keep g2)
  have G2 := Lib.hid (G1.out.trans g2)
  have d2 := G2.out.cell b2
  clear o2 g2 d0 s1
  go_wp2_with fail
  refine (tx_load (H.out.tx.keep G2.out) 0 1024 (by decide) (by decide)).mono ?_
  rintro e w3 ⟨A3, k3, rfl, o3, g3⟩
  rw [HLA.out.1] at o3
  rw [HLA.out.1, HLA.out.2.1]
  have s3 := Lib.hid o3.sl
  have s1'' := Lib.hid (s1'.out.keep g3)
  have s2' := Lib.hid (s2.out.keep g3)
  have G3 := Lib.hid (G2.out.trans g3)
  have d4 := G3.out.cell b4
  clear o3 g3 d2 s1' s2
  go_wp2_with fail
  refine (rx_load (H.out.rx.keep G3.out) H.out.ok.S 0 1024).mono ?_
  rintro e w4 ⟨A4, k4, rfl, o4, g4⟩
  rw [HLA.out.1] at o4
  rw [HLA.out.1, HLA.out.2.1]
  have s4 := Lib.hid o4.sl
  have s1 := Lib.hid (s1''.out.keep g4)
  have s2 := Lib.hid (s2'.out.keep g4)
  have s3' := Lib.hid (s3.out.keep g4)
  have G4 := Lib.hid (G3.out.trans g4)
  have d3 := G4.out.cell b3
  have d5 := G4.out.cell c0
  clear o4 g4 d4 s1'' s2' s3
  go_wp2_with fail
  refine (same_yes s1.out (HS.out.keep G4.out) rfl).mono ?_
  rintro e w5 ⟨rfl, n5, hw5⟩
  have g5 : Grow w4 w5 := by rw [hw5]; exact (Grow.refl _).drewN n5
  have G5 := Lib.hid (G4.out.trans g5)
  have s2' := Lib.hid (s2.out.keep g5)
  have s3 := Lib.hid (s3'.out.keep g5)
  have s4' := Lib.hid (s4.out.keep g5)
  have f3 := G5.out.cell b3
  have f5 := G5.out.cell c1
  clear hw5 g5 d3 d5 s1 s2 s3' s4
  go_wp2_with fail
  refine (same_yes s2'.out (HT.out.keep G5.out) rfl).mono ?_
  rintro e w6 ⟨rfl, n6, hw6⟩
  have g6 : Grow w5 w6 := by rw [hw6]; exact (Grow.refl _).drewN n6
  have G6 := Lib.hid (G5.out.trans g6)
  have s3' := Lib.hid (s3.out.keep g6)
  have s4 := Lib.hid (s4'.out.keep g6)
  clear hw6 g6 f3 f5 s2' s3 s4'
  go_wp2_with fail
  refine (same_yes s3'.out s4.out rfl).mono ?_
  rintro e w7 ⟨rfl, n7, hw7⟩
  have g7 : Grow w6 w7 := by rw [hw7]; exact (Grow.refl _).drewN n7
  have G7 := Lib.hid (G6.out.trans g7)
  have H7 := Lib.hid (H.out.keep G7.out)
  have R7 := Lib.hid (RV.out.keep G7.out)
  have k2 := G7.out.cell b2
  have k4 := G7.out.cell b4
  have k5 := G7.out.cell e2
  clear hw7 g7 s3' s4 b2 b3 b4 c0 c1 e2
  go_wp2_with fail
  go_region_held3 (fun w' => w'.cell? ⟨pb, 2, none⟩ = some (.pointer (some ⟨t, 0, none⟩)) ∧ w'.cell? ⟨pb, 4, none⟩ = some (.pointer (some ⟨d, 0, none⟩)) ∧ w'.cell? ⟨d, 2, none⟩ = some (.slice Av L.length cv)) (first | exact ⟨k2, k4, k5⟩ | exact hsA | exact hsB) ((first
    | (go_at_call 10; go_loud (refine (tx_patches (H7.out.tx.keep ?_)).mono ?_; (repeat (first | exact Grow.refl _ | refine Grow.drew ?_ | refine Grow.drewN ?_ _)); rintro e w8 ⟨A8, k8, rfl, o8, g8'⟩; have g8 : Grow w7 w8 := Grow.trans (by (repeat (first | exact Grow.refl _ | refine Grow.drew ?_ | refine Grow.drewN ?_ _))) g8'; have hsA := And.intro (g8.cell k2) (And.intro (g8.cell k4) (g8.cell k5)); obtain ⟨A8', k8', e8, -, r8⟩ := o8.rp (by omega); injection e8 with e81 e82 e83; subst e81; have R8 := Lib.hid r8; clear g8' o8 r8 e82 e83))
    | (go_at_call 54; go_loud (refine (pats_sameG (R8.out.keep ?_) ((R7.out.keep g8).keep ?_) (by omega)).mono ?_; (repeat (first | exact Grow.refl _ | refine Grow.drew ?_ | refine Grow.drewN ?_ _)); rintro e w9 ⟨rfl, g9'⟩; have g9 : Grow w8 w9 := Grow.trans (by (repeat (first | exact Grow.refl _ | refine Grow.drew ?_ | refine Grow.drewN ?_ _))) g9'; have hsB := And.intro (g9.cell hsA.1) (And.intro (g9.cell hsA.2.1) (g9.cell hsA.2.2)); clear g9'))))
  all_goals
    have GG := Lib.hid ((G7.out.trans g8).trans g9)
    clear g8 g9 hsA hsB k2 k4 k5
    go_wp2_with fail
    go_ret
    exact ⟨rfl, GG.out⟩
end Go.Proofs.Ytlinlmimakealaa

namespace Go.Proofs.Ytlinlmimakealaa
open Go.RowKit

def pA : PT := ⟨3, ⟨#[97, 98]⟩⟩
def pB : PT := ⟨4, ⟨#[120]⟩⟩
theorem take_two {S : List UInt8} {i : Nat} (h : i + 1 < S.length) : (S.drop i).take 2 = [S.getD i 0, S.getD (i + 1) 0] := by
  rw [List.drop_eq_getElem_cons (by omega), List.drop_eq_getElem_cons h, List.getD_eq_getElem?_getD, List.getElem?_eq_getElem (by omega), List.getD_eq_getElem?_getD, List.getElem?_eq_getElem h]; rfl
theorem live9 : stL [] 3 [97, 98] = [pA] ∧ stL [pA] 4 [120] = [pA, pB] ∧ lodL fresh [pA, pB] 3 2 = [97, 120] ∧ (fresh.S.drop 3).take 2 = [0, 0] ∧ cmE fresh [pA, pB] = 0 ∧ ((cmS fresh [pA, pB]).T.drop 3).take 2 = [97, 120] := by
  have hl : (encP [pA, pB]).length = 24 := by rw [encP_length]; rfl
  have h0 : apE fresh.S [pA, pB] = 0 := apE_iff.2 ⟨by decide, by rw [fresh_log.2.2, hl]; omega⟩
  obtain ⟨h1, h2, h3, -⟩ := append_is fresh_ok (MS.still_cov fresh_still) h0
  rw [fresh_log.2.1, List.nil_append] at h3
  obtain ⟨r1, r2, r3⟩ := redo_is h1 (MS.still_cov h2)
  have hz : (fresh.S.drop 3).take 2 = [0, 0] := by rw [take_two (by rw [fresh_ok.S]; omega)]; rfl
  refine ⟨rfl, rfl, ?_, hz, ?_, ?_⟩
  · unfold lodL loadL
    rw [if_pos (by decide)]
    rw [show ((3 : Int).toNat) = 3 from rfl, show ((2 : Int).toNat) = 2 from rfl, hz]
    rfl
  · unfold cmE
    rw [if_neg (by decide), h0]
  · unfold cmS
    rw [if_neg (by decide), if_pos h0]
    rw [← show (fresh.append [pA, pB]).redo.S = (fresh.append [pA, pB]).redo.T from r2, take_two (by rw [r1.S]; omega), r3, h3]
    have e : [[pA, pB]].flatten.foldl patS (fresh.append [pA, pB]).S = putL (putL (fresh.append [pA, pB]).S 3 [97, 98]) 4 [120] := rfl
    have hS := h1.S
    rw [e, putL_get _ _ _ _ (by rw [putL_length, putL_length, hS]; decide), if_neg (by omega), putL_get _ _ _ _ (by rw [putL_length, hS]; decide), if_neg (by simp), putL_get _ _ _ _ (by rw [hS]; decide), if_pos (by decide)]
    rw [putL_get _ _ _ _ (by rw [putL_length, putL_length, hS]; decide), if_neg (by omega), putL_get _ _ _ _ (by rw [putL_length, hS]; decide), if_pos (by decide)]
    rfl
set_option maxHeartbeats 4000000 in
set_option maxRecDepth 4000 in
theorem lives9 (w : World) : Calls Try.prog 12 #[] w fun e w' => e = .returned (.bool true) ∧ Grow w w' := by
  have HL := Lib.hid live9
  have kc := fun (w : World) (C : Array Value) (n c : Nat) => Lib.run_convert_bytes_const (P := Try.prog) w 22 5 C n c Try.underlying22 Try.underlying5
  go_enter Try.func12, Try.ntmps12
  go_wp2_with fail
  refine (begin9 w).mono ?_
  rintro e w1 ⟨pb, l, t, dl, d, x, y, rfl, hp, hpb, hl, hdl, g1⟩
  have HP := Lib.hid hp
  have HG := Lib.hid g1
  have hz := g1.size
  have b2 := hp.blk.c5.2.2.1
  clear hp g1
  go_wp2_with fail
  refine (tx_store (w := w1.alloc (.cells #[.int .u8 97, .int .u8 98] 5 (2, 3))) (HP.out.tx.keep ((Grow.refl _).alloc _)) (by simp; omega) (Sl.litf w1 _ _ _ [97, 98] 2 rfl rfl (by omega)) (fun h0 p hp => ?_) 3).mono ?_
  · injection hp with hp; subst hp; exact ⟨fun k => (by cases k), fun k => by have := HP.out.tx.blk.1.1; simp at k; omega⟩
  rintro e w2 ⟨rfl, v2, h2, t2, n2⟩
  rw [show stO [] 3 2 = true from rfl]
  rw [HL.out.1] at h2
  have xb := HP.out.xb
  have B2 := Lib.hid (HP.out.blk.turn ((Turn.grow ((Grow.refl w1).alloc _) _).and t2) (fun q => q.elim (fun e => HP.out.xp (.inr (.inl e))) (fun e => by cases e)))
  have G2 := Lib.hid (HG.out.low (((Turn.grow ((Grow.refl w1).alloc _) _).and t2).low (fun k q => q.elim (fun e => xb k (.inr (.inl e))) (fun e => by cases e)) hz))
  have H2 := Lib.hid h2
  have X2 := Lib.hid (show ∀ k, x.F k → w.heap.size ≤ k ∧ k ≠ pb from fun k q => ⟨xb k (.inl q), fun e => HP.out.xp (.inl (e ▸ q))⟩)
  have V2 := Lib.hid (show ∀ k, v2.ownBlock = some k → w1.heap.size ≤ k from fun k q => by
    rcases n2 with e | ⟨g, e, hg⟩
    · rw [e] at q; cases q
    · rw [e] at q; injection q with q; subst q; simp at hg; omega)
  have hz2 := G2.out.size
  have c2 := B2.out.c5.2.2.1
  have ht := xb t (.inr (.inl rfl))
  have hpt : t ≠ pb := fun e => HP.out.xp (.inr (.inl e.symm))
  have hpw : pb < w1.heap.size := HP.out.blk.1
  have hzz := t2.size
  clear h2 n2 b2
  go_wp2_with fail
  refine (tx_store (w := w2.alloc (.cells #[.int .u8 120] 5 (1, 2))) (H2.out.keep ((Grow.refl _).alloc _)) (by simp; omega) (Sl.litf w2 _ _ _ [120] 1 rfl rfl (by omega)) (fun h0 p hp => ?_) 4).mono ?_
  · injection hp with hp; subst hp; exact ⟨fun k => by have := (World.ownsRow.lt H2.out.row _ k).2; simp at this, fun k => by have := H2.out.blk.1.1; simp at k; omega⟩
  rintro e w3 ⟨rfl, v3, h3, t3, n3⟩
  rw [show stO [pA] 4 1 = true from rfl]
  rw [HL.out.2.1] at h3
  have B3 := Lib.hid (B2.out.turn ((Turn.grow ((Grow.refl w2).alloc _) _).and t3) (fun q => q.elim (fun e => hpt e.symm) (fun e => by have := V2.out _ e; omega)))
  have G3 := Lib.hid (G2.out.low (((Turn.grow ((Grow.refl w2).alloc _) _).and t3).low (fun k q => q.elim (fun e => by omega) (fun e => by have := V2.out _ e; omega)) hz2))
  have H3 := Lib.hid h3
  have c3 := B3.out.c5.2.2.1
  clear h3 n3 c2 t3
  go_wp2_with fail
  refine (tx_load H3.out 3 2 (by decide) (by decide)).mono ?_
  rintro e w4 ⟨A4, k4, rfl, o4, g4⟩
  rw [show loadM 128 3 2 = 2 from rfl, HL.out.2.2.1] at o4
  rw [show loadM 128 3 2 = 2 from rfl, show inW 1024 3 2 = true from rfl]
  have S4 := Lib.hid o4.sl
  have HF4 := Lib.hid (show ∀ p, A4 = some p → w3.heap.size ≤ p.block from fun p hp => by subst hp; exact (World.ownsRow.lt o4.2.2 p.block rfl).1)
  have H4 := Lib.hid (H3.out.keep g4)
  have G4 := Lib.hid (G3.out.trans g4)
  have B4 := Lib.hid (B3.out.keep g4)
  have c4 := B4.out.c5.1
  clear o4 g4 c3
  go_wp2_with fail
  refine (pm_load H4.out.lg.1 3 2 (by decide)).mono ?_
  rintro e w5 ⟨A5, k5, rfl, o5, g5⟩
  rw [HL.out.2.2.2.1] at o5
  have S5 := Lib.hid o5.sl
  have S45 := Lib.hid (S4.out.keep g5)
  have H5 := Lib.hid (H4.out.keep g5)
  have G5 := Lib.hid (G4.out.trans g5)
  have B5 := Lib.hid (B4.out.keep g5)
  have HF5 := Lib.hid (show (∀ p, A4 = some p → w3.heap.size ≤ p.block) ∧ (∀ p, A5 = some p → w4.heap.size ≤ p.block) from ⟨HF4.out, fun p hp => by subst hp; exact (World.ownsRow.lt o5.2.2 p.block rfl).1⟩)
  have c5 := B5.out.c5.2.2.1
  clear o5 g5 c4
  go_wp2_with fail
  refine (tx_commit H5.out).mono ?_
  rintro e w6 ⟨rfl, v6, h6, t6, n6⟩
  rw [HL.out.2.2.2.2.1]
  have B6 := Lib.hid (B5.out.turn t6 (fun q => q.elim (fun q => (X2.out _ q).2 rfl) (fun e => hpt e.symm)))
  have G6 := Lib.hid (G5.out.low (t6.low (fun k q => q.elim (fun q => (X2.out k q).1) (fun e => by omega)) G5.out.size))
  have hcx := H5.out.lg.1.lt
  have S46 := Lib.hid (S45.out.turn' t6 (fun _ p hp q => q.elim (fun q => by have := HF5.out.1 p hp; have := H3.out.lg.1.lt _ q; omega) (fun e => by have := HF5.out.1 p hp; have := H3.out.blk.1.1; omega)))
  have S56 := Lib.hid (S5.out.turn' t6 (fun _ p hp q => q.elim (fun q => by have := HF5.out.2 p hp; have := H4.out.lg.1.lt _ q; omega) (fun e => by have := HF5.out.2 p hp; have := H4.out.blk.1.1; omega)))
  have H6 := Lib.hid h6
  have c6 := B6.out.c5.1
  clear h6 t6 n6 c5 hcx
  go_wp2_with fail
  refine (pm_lasts H6.out.lg.1 3 2 (by decide)).mono ?_
  rintro e w7 ⟨A7, k7, rfl, o7, g7⟩
  rw [HL.out.2.2.2.2.2] at o7
  have cv4 := conv_s (c := k4) (S46.out.keep g7)
  have cv5 := conv_s (c := k5) (S56.out.keep g7)
  have cv7 := conv_s (c := k7) o7.sl
  have G7 := Lib.hid (G6.out.trans g7)
  clear o7 g7 c6
  go_wp2_with fail
  go_ret
  exact ⟨rfl, G7.out⟩
end Go.Proofs.Ytlinlmimakealaa
