/- commonslaw08.does: Clear, Redo. commonslaw08.does: Crash, Store. commonslaw08.does: Flush and Fence, and the rest. commonslaw08.does: all kinds. No statement of the seat is proved here. -/
import Derived.Test.YtncjfljmnkfghaaZ20
import Derived.Deep.DeepCutAuto
import Derived.Deep.RegionHeld3
namespace Go.Proofs.Ytncjfljmnkfghaa
open Go.RowKit

set_option maxHeartbeats 8000000 in
set_option maxRecDepth 8000 in
theorem does8_1 {w : World} {base pb l d : Nat} {x y : MB} {s : MS} (h : PX w base pb l d x y s) (hb : base ≤ w.heap.size) {np cp m c q dq : Nat} {P B Q : Option Addr} {L : List PT} {a : Int} {bs : List UInt8} {pk : List Int} (hd : DA w base P np L a B m c bs Q q dq pk) :
    Calls Try.prog 34 #[.pointer (some ⟨pb, 0, none⟩), .agg #[.int .i64 1, .slice P np cp, .int .i64 a, .slice B m c, .slice Q q dq]] w fun e w' => e = .returned (.bool true) ∧ Done8 w w' base pb l d x.p y := by
  have H := Lib.hid h
  have HD := Lib.hid hd
  have HC := Lib.hid hd.cut
  have hcap := hd.cap
  have hpcap := hd.pcap
  obtain ⟨b0, b1, b2, b3⟩ := h.blk.c4
  clear h hd
  obtain ⟨m', hm'⟩ : ∃ m', m' = min m 60 := ⟨_, rfl⟩
  obtain ⟨q', hq'⟩ : ∃ q', q' = min q 200 := ⟨_, rfl⟩
  rw [← hm', ← hq'] at HC
  obtain ⟨bs', hbs'⟩ : ∃ z, z = bs.take m' := ⟨_, rfl⟩
  obtain ⟨pk', hpk'⟩ : ∃ z, z = pk.take q' := ⟨_, rfl⟩
  rw [← hbs', ← hpk'] at HC
  have HM := Lib.hid hm'
  have HQ := Lib.hid hq'
  clear hm' hq' hbs' hpk'
  go_enter Try.func34, Try.ntmps34
  go_upto_if 9 with fail
  go_cut [3] (fun v wx => v = .pointer (some ⟨w.heap.size, 0, none⟩) ∧ wx = w.alloc (.cells #[.int .i64 1, .slice P np cp, .int .i64 a, .slice B m' c, .slice Q q dq] 62))
  case first =>
    by_cases h60 : 60 < m
    · have z1 : decide (60 < m) = true := decide_eq_true h60
      have z2 : decide ((60 : Int) < (m : Int)) = true := decide_eq_true (by omega)
      have i1 : 60 ≤ c := by omega
      have HE := Lib.hid (show 60 = m' by have := HM.out; omega)
      go_wp2_with fail
      all_goals first | (exfalso; omega) | (go_meet; exact ⟨rfl, by rw [← HE.out]⟩)
    · have z1 : decide (60 < m) = false := decide_eq_false h60
      have z2 : decide ((60 : Int) < (m : Int)) = false := decide_eq_false (by omega)
      have HE := Lib.hid (show m = m' by have := HM.out; omega)
      go_wp2_with fail
      all_goals first | (exfalso; omega) | (go_meet; exact ⟨rfl, by rw [← HE.out]⟩)
  case rest =>
    obtain ⟨rfl, hwc⟩ := hcut
    subst hwc
    go_upto_if 17 with fail
    go_cut [3] (fun v wx => v = .pointer (some ⟨w.heap.size, 0, none⟩) ∧ wx = w.alloc (.cells #[.int .i64 1, .slice P np cp, .int .i64 a, .slice B m' c, .slice Q q' dq] 62))
    case first =>
      by_cases h60 : 200 < q
      · have z1 : decide (200 < q) = true := decide_eq_true h60
        have z2 : decide ((200 : Int) < (q : Int)) = true := decide_eq_true (by omega)
        have i1 : 200 ≤ dq := by omega
        have HE := Lib.hid (show 200 = q' by have := HQ.out; omega)
        go_wp2_with fail
        all_goals first | (exfalso; omega) | (go_meet; exact ⟨rfl, by rw [← HE.out]⟩)
      · have z1 : decide (200 < q) = false := decide_eq_false h60
        have z2 : decide ((200 : Int) < (q : Int)) = false := decide_eq_false (by omega)
        have HE := Lib.hid (show q = q' by have := HQ.out; omega)
        go_wp2_with fail
        all_goals first | (exfalso; omega) | (go_meet; exact ⟨rfl, by rw [← HE.out]⟩)
    case rest =>
      obtain ⟨rfl, hwc⟩ := hcut
      obtain ⟨w1, hw1⟩ : ∃ w1, w1 = w.alloc (.cells #[.int .i64 1, .slice P np cp, .int .i64 a, .slice B m' c, .slice Q q' dq] 62) := ⟨_, rfl⟩
      have g1 : Grow w w1 := by rw [hw1]; exact (Grow.refl w).alloc _
      have NB := Row.new w 62 [.int .i64 1, .slice P np cp, .int .i64 a, .slice B m' c, .slice Q q' dq] _ rfl
      rw [← hw1] at hwc NB
      subst hwc
      obtain ⟨g, hg⟩ : ∃ g, g = w.heap.size := ⟨_, rfl⟩
      rw [← hg] at NB ⊢
      obtain ⟨d0, d1, d2, d3, d4⟩ := NB.1.c5
      have hgx : ¬ x.F g := fun q => by have := H.out.lg.1.lt g q; omega
      have hgy : ¬ y.F g := fun q => by have := H.out.rl.1.lt g q; omega
      have H1 := Lib.hid (H.out.keep g1)
      have D1 := Lib.hid (HC.out.keep g1)
      have P1 := Lib.hid (HD.out.pats.keep g1)
      have HW := Lib.hid (fewP_wide (k := 6) (m := 40) HD.out.wide)
      have G1 := Lib.hid g1
      replace b0 := g1.cell b0
      replace b1 := g1.cell b1
      replace b2 := g1.cell b2
      replace b3 := g1.cell b3
      have hb1 : base ≤ wc.heap.size := Nat.le_trans hb g1.size
      clear NB hw1 hg g1 HC HM HQ hcap hpcap
      go_wp2_with fail
      refine (pl_clear H1.out.lg).mono ?_
      rintro e w4 ⟨rfl, h4, t4⟩
      have c3 := (H1.out.blk1 t4).c4.2.2.2
      have H4 := Lib.hid h4
      have T4 := Lib.hid t4
      clear h4 t4 b0 b1 b2 b3 d0 d1 d2 d3 d4
      go_wp2_with fail
      refine (rl_clear (H1.out.rl1 T4.out)).mono ?_
      rintro e w5 ⟨rfl, h5, t5⟩
      have X := Lib.hid (H1.out.done hb1 H4.out T4.out h5 t5 G1.out hb)
      clear h5 t5 c3
      go_wp2_with fail
      go_ret
      exact ⟨rfl, X.out⟩
set_option maxHeartbeats 8000000 in
set_option maxRecDepth 8000 in
theorem does8_2 {w : World} {base pb l d : Nat} {x y : MB} {s : MS} (h : PX w base pb l d x y s) (hb : base ≤ w.heap.size) {np cp m c q dq : Nat} {P B Q : Option Addr} {L : List PT} {a : Int} {bs : List UInt8} {pk : List Int} (hd : DA w base P np L a B m c bs Q q dq pk) :
    Calls Try.prog 34 #[.pointer (some ⟨pb, 0, none⟩), .agg #[.int .i64 2, .slice P np cp, .int .i64 a, .slice B m c, .slice Q q dq]] w fun e w' => e = .returned (.bool true) ∧ Done8 w w' base pb l d x.p y := by
  have H := Lib.hid h
  have HD := Lib.hid hd
  have HC := Lib.hid hd.cut
  have hcap := hd.cap
  have hpcap := hd.pcap
  obtain ⟨b0, b1, b2, b3⟩ := h.blk.c4
  clear h hd
  obtain ⟨m', hm'⟩ : ∃ m', m' = min m 60 := ⟨_, rfl⟩
  obtain ⟨q', hq'⟩ : ∃ q', q' = min q 200 := ⟨_, rfl⟩
  rw [← hm', ← hq'] at HC
  obtain ⟨bs', hbs'⟩ : ∃ z, z = bs.take m' := ⟨_, rfl⟩
  obtain ⟨pk', hpk'⟩ : ∃ z, z = pk.take q' := ⟨_, rfl⟩
  rw [← hbs', ← hpk'] at HC
  have HM := Lib.hid hm'
  have HQ := Lib.hid hq'
  clear hm' hq' hbs' hpk'
  go_enter Try.func34, Try.ntmps34
  go_upto_if 9 with fail
  go_cut [3] (fun v wx => v = .pointer (some ⟨w.heap.size, 0, none⟩) ∧ wx = w.alloc (.cells #[.int .i64 2, .slice P np cp, .int .i64 a, .slice B m' c, .slice Q q dq] 62))
  case first =>
    by_cases h60 : 60 < m
    · have z1 : decide (60 < m) = true := decide_eq_true h60
      have z2 : decide ((60 : Int) < (m : Int)) = true := decide_eq_true (by omega)
      have i1 : 60 ≤ c := by omega
      have HE := Lib.hid (show 60 = m' by have := HM.out; omega)
      go_wp2_with fail
      all_goals first | (exfalso; omega) | (go_meet; exact ⟨rfl, by rw [← HE.out]⟩)
    · have z1 : decide (60 < m) = false := decide_eq_false h60
      have z2 : decide ((60 : Int) < (m : Int)) = false := decide_eq_false (by omega)
      have HE := Lib.hid (show m = m' by have := HM.out; omega)
      go_wp2_with fail
      all_goals first | (exfalso; omega) | (go_meet; exact ⟨rfl, by rw [← HE.out]⟩)
  case rest =>
    obtain ⟨rfl, hwc⟩ := hcut
    subst hwc
    go_upto_if 17 with fail
    go_cut [3] (fun v wx => v = .pointer (some ⟨w.heap.size, 0, none⟩) ∧ wx = w.alloc (.cells #[.int .i64 2, .slice P np cp, .int .i64 a, .slice B m' c, .slice Q q' dq] 62))
    case first =>
      by_cases h60 : 200 < q
      · have z1 : decide (200 < q) = true := decide_eq_true h60
        have z2 : decide ((200 : Int) < (q : Int)) = true := decide_eq_true (by omega)
        have i1 : 200 ≤ dq := by omega
        have HE := Lib.hid (show 200 = q' by have := HQ.out; omega)
        go_wp2_with fail
        all_goals first | (exfalso; omega) | (go_meet; exact ⟨rfl, by rw [← HE.out]⟩)
      · have z1 : decide (200 < q) = false := decide_eq_false h60
        have z2 : decide ((200 : Int) < (q : Int)) = false := decide_eq_false (by omega)
        have HE := Lib.hid (show q = q' by have := HQ.out; omega)
        go_wp2_with fail
        all_goals first | (exfalso; omega) | (go_meet; exact ⟨rfl, by rw [← HE.out]⟩)
    case rest =>
      obtain ⟨rfl, hwc⟩ := hcut
      obtain ⟨w1, hw1⟩ : ∃ w1, w1 = w.alloc (.cells #[.int .i64 2, .slice P np cp, .int .i64 a, .slice B m' c, .slice Q q' dq] 62) := ⟨_, rfl⟩
      have g1 : Grow w w1 := by rw [hw1]; exact (Grow.refl w).alloc _
      have NB := Row.new w 62 [.int .i64 2, .slice P np cp, .int .i64 a, .slice B m' c, .slice Q q' dq] _ rfl
      rw [← hw1] at hwc NB
      subst hwc
      obtain ⟨g, hg⟩ : ∃ g, g = w.heap.size := ⟨_, rfl⟩
      rw [← hg] at NB ⊢
      obtain ⟨d0, d1, d2, d3, d4⟩ := NB.1.c5
      have hgx : ¬ x.F g := fun q => by have := H.out.lg.1.lt g q; omega
      have hgy : ¬ y.F g := fun q => by have := H.out.rl.1.lt g q; omega
      have H1 := Lib.hid (H.out.keep g1)
      have D1 := Lib.hid (HC.out.keep g1)
      have P1 := Lib.hid (HD.out.pats.keep g1)
      have HW := Lib.hid (fewP_wide (k := 6) (m := 40) HD.out.wide)
      have G1 := Lib.hid g1
      replace b0 := g1.cell b0
      replace b1 := g1.cell b1
      replace b2 := g1.cell b2
      replace b3 := g1.cell b3
      have hb1 : base ≤ wc.heap.size := Nat.le_trans hb g1.size
      clear NB hw1 hg g1 HC HM HQ hcap hpcap
      clear b0 b2 d1 d2 d3 d4
      go_wp2_with fail
      go_region_held3 (fun w' => w'.cell? ⟨pb, 1, none⟩ = some (.pointer (some ⟨l, 0, none⟩)) ∧ w'.cell? ⟨pb, 3, none⟩ = some (.pointer (some ⟨d, 0, none⟩))) (first | exact ⟨b1, b3⟩ | exact hsA | exact hsB) ((first
        | (go_at_call 31; go_loud (refine (pl_redo (H1.out.lg.keep ?_)).mono ?_; (repeat (first | exact Grow.refl _ | refine Grow.drew ?_ | refine Grow.drewN ?_ _)); rintro e w4 ⟨rfl, h4, t4'⟩; have t4 : Turn x.F wc w4 := (Turn.grow (show Grow wc _ by (repeat (first | exact Grow.refl _ | refine Grow.drew ?_ | refine Grow.drewN ?_ _))) x.F).and t4'; have hsA : w4.cell? ⟨pb, 1, none⟩ = some (.pointer (some ⟨l, 0, none⟩)) ∧ w4.cell? ⟨pb, 3, none⟩ = some (.pointer (some ⟨d, 0, none⟩)) := ⟨(H1.out.blk1 t4).c4.2.1, (H1.out.blk1 t4).c4.2.2.2⟩; clear t4'))
        | (go_at_call 66; go_loud (refine (rl_redo ((H1.out.rl1 t4).keep ?_)).mono ?_; (repeat (first | exact Grow.refl _ | refine Grow.drew ?_ | refine Grow.drewN ?_ _)); rintro e w5 ⟨rfl, h5, t5'⟩; have t5 : Turn y.F w4 w5 := (Turn.grow (show Grow w4 _ by (repeat (first | exact Grow.refl _ | refine Grow.drew ?_ | refine Grow.drewN ?_ _))) y.F).and t5'; have hsB : w5.cell? ⟨pb, 1, none⟩ = some (.pointer (some ⟨l, 0, none⟩)) ∧ w5.cell? ⟨pb, 3, none⟩ = some (.pointer (some ⟨d, 0, none⟩)) := ⟨((H1.out.blk1 t4).turn t5 H1.out.yp).c4.2.1, ((H1.out.blk1 t4).turn t5 H1.out.yp).c4.2.2.2⟩; clear t5'))))
      all_goals
        have X := Lib.hid (H1.out.done hb1 h4 t4 h5 t5 G1.out hb)
        clear h4 t4 h5 t5 hsA hsB b1 b3
        go_wp2_with fail
        go_ret
        exact ⟨ret_bool (by simp), X.out⟩
end Go.Proofs.Ytncjfljmnkfghaa

namespace Go.Proofs.Ytncjfljmnkfghaa
open Go.RowKit

set_option maxHeartbeats 8000000 in
set_option maxRecDepth 8000 in
theorem does8_3 {w : World} {base pb l d : Nat} {x y : MB} {s : MS} (h : PX w base pb l d x y s) (hb : base ≤ w.heap.size) {np cp m c q dq : Nat} {P B Q : Option Addr} {L : List PT} {a : Int} {bs : List UInt8} {pk : List Int} (hd : DA w base P np L a B m c bs Q q dq pk) :
    Calls Try.prog 34 #[.pointer (some ⟨pb, 0, none⟩), .agg #[.int .i64 3, .slice P np cp, .int .i64 a, .slice B m c, .slice Q q dq]] w fun e w' => e = .returned (.bool true) ∧ Done8 w w' base pb l d x.p y := by
  have H := Lib.hid h
  have HD := Lib.hid hd
  have HC := Lib.hid hd.cut
  have hcap := hd.cap
  have hpcap := hd.pcap
  obtain ⟨b0, b1, b2, b3⟩ := h.blk.c4
  clear h hd
  obtain ⟨m', hm'⟩ : ∃ m', m' = min m 60 := ⟨_, rfl⟩
  obtain ⟨q', hq'⟩ : ∃ q', q' = min q 200 := ⟨_, rfl⟩
  rw [← hm', ← hq'] at HC
  obtain ⟨bs', hbs'⟩ : ∃ z, z = bs.take m' := ⟨_, rfl⟩
  obtain ⟨pk', hpk'⟩ : ∃ z, z = pk.take q' := ⟨_, rfl⟩
  rw [← hbs', ← hpk'] at HC
  have HM := Lib.hid hm'
  have HQ := Lib.hid hq'
  clear hm' hq' hbs' hpk'
  go_enter Try.func34, Try.ntmps34
  go_upto_if 9 with fail
  go_cut [3] (fun v wx => v = .pointer (some ⟨w.heap.size, 0, none⟩) ∧ wx = w.alloc (.cells #[.int .i64 3, .slice P np cp, .int .i64 a, .slice B m' c, .slice Q q dq] 62))
  case first =>
    by_cases h60 : 60 < m
    · have z1 : decide (60 < m) = true := decide_eq_true h60
      have z2 : decide ((60 : Int) < (m : Int)) = true := decide_eq_true (by omega)
      have i1 : 60 ≤ c := by omega
      have HE := Lib.hid (show 60 = m' by have := HM.out; omega)
      go_wp2_with fail
      all_goals first | (exfalso; omega) | (go_meet; exact ⟨rfl, by rw [← HE.out]⟩)
    · have z1 : decide (60 < m) = false := decide_eq_false h60
      have z2 : decide ((60 : Int) < (m : Int)) = false := decide_eq_false (by omega)
      have HE := Lib.hid (show m = m' by have := HM.out; omega)
      go_wp2_with fail
      all_goals first | (exfalso; omega) | (go_meet; exact ⟨rfl, by rw [← HE.out]⟩)
  case rest =>
    obtain ⟨rfl, hwc⟩ := hcut
    subst hwc
    go_upto_if 17 with fail
    go_cut [3] (fun v wx => v = .pointer (some ⟨w.heap.size, 0, none⟩) ∧ wx = w.alloc (.cells #[.int .i64 3, .slice P np cp, .int .i64 a, .slice B m' c, .slice Q q' dq] 62))
    case first =>
      by_cases h60 : 200 < q
      · have z1 : decide (200 < q) = true := decide_eq_true h60
        have z2 : decide ((200 : Int) < (q : Int)) = true := decide_eq_true (by omega)
        have i1 : 200 ≤ dq := by omega
        have HE := Lib.hid (show 200 = q' by have := HQ.out; omega)
        go_wp2_with fail
        all_goals first | (exfalso; omega) | (go_meet; exact ⟨rfl, by rw [← HE.out]⟩)
      · have z1 : decide (200 < q) = false := decide_eq_false h60
        have z2 : decide ((200 : Int) < (q : Int)) = false := decide_eq_false (by omega)
        have HE := Lib.hid (show q = q' by have := HQ.out; omega)
        go_wp2_with fail
        all_goals first | (exfalso; omega) | (go_meet; exact ⟨rfl, by rw [← HE.out]⟩)
    case rest =>
      obtain ⟨rfl, hwc⟩ := hcut
      obtain ⟨w1, hw1⟩ : ∃ w1, w1 = w.alloc (.cells #[.int .i64 3, .slice P np cp, .int .i64 a, .slice B m' c, .slice Q q' dq] 62) := ⟨_, rfl⟩
      have g1 : Grow w w1 := by rw [hw1]; exact (Grow.refl w).alloc _
      have NB := Row.new w 62 [.int .i64 3, .slice P np cp, .int .i64 a, .slice B m' c, .slice Q q' dq] _ rfl
      rw [← hw1] at hwc NB
      subst hwc
      obtain ⟨g, hg⟩ : ∃ g, g = w.heap.size := ⟨_, rfl⟩
      rw [← hg] at NB ⊢
      obtain ⟨d0, d1, d2, d3, d4⟩ := NB.1.c5
      have hgx : ¬ x.F g := fun q => by have := H.out.lg.1.lt g q; omega
      have hgy : ¬ y.F g := fun q => by have := H.out.rl.1.lt g q; omega
      have H1 := Lib.hid (H.out.keep g1)
      have D1 := Lib.hid (HC.out.keep g1)
      have P1 := Lib.hid (HD.out.pats.keep g1)
      have HW := Lib.hid (fewP_wide (k := 6) (m := 40) HD.out.wide)
      have G1 := Lib.hid g1
      replace b0 := g1.cell b0
      replace b1 := g1.cell b1
      replace b2 := g1.cell b2
      replace b3 := g1.cell b3
      have hb1 : base ≤ wc.heap.size := Nat.le_trans hb g1.size
      clear NB hw1 hg g1 HC HM HQ hcap hpcap
      clear b1 b3 d1 d2 d3
      go_wp2_with fail
      go_region_held3 (fun w' => w'.cell? ⟨pb, 0, none⟩ = some (.pointer (some ⟨x.p, 0, none⟩)) ∧ w'.cell? ⟨g, 4, none⟩ = some (.slice Q q' dq)) (first | exact ⟨b0, d4⟩ | exact hsA) ((go_at_call 30; go_loud (refine (pm_crash (H1.out.lg.1.keep ?_) (D1.out.picks.keep ?_) (H1.out.outB D1.out.aq).1).mono ?_; (repeat (first | exact Grow.refl _ | refine Grow.drew ?_ | refine Grow.drewN ?_ _)); rintro e w4 ⟨rfl, g', hg', h4, t4'⟩; have t4 : Turn x.F wc w4 := (Turn.grow (show Grow wc _ by (repeat (first | exact Grow.refl _ | refine Grow.drew ?_ | refine Grow.drewN ?_ _))) x.F).and t4'; have hg4 : wc.heap.size ≤ g' := hg'; have hsA := And.intro (H1.out.blk1 t4).c4.1 (t4.cell' d4 hgx); clear t4')))
      all_goals
        have H4 := Lib.hid h4
        have T4 := Lib.hid t4
        have c2 := (H1.out.blk1 t4).c4.2.2.1
        have c4 := t4.cell' d4 hgx
        have QK := Lib.hid (D1.out.picks.turn t4 (H1.out.outB D1.out.aq).1)
        clear h4 t4 hsA b0 b2 d0 d4
        go_wp2_with fail
        go_region_held3 (fun w' => w'.cell? ⟨pb, 2, none⟩ = some (.pointer (some ⟨y.p, 0, none⟩)) ∧ w'.cell? ⟨g, 4, none⟩ = some (.slice Q q' dq)) (first | exact ⟨c2, c4⟩ | exact hsB) ((go_at_call 67; go_loud (refine (rm_crash ((H1.out.rl1 T4.out).1.keep ?_) (QK.out.keep ?_) (H1.out.outB D1.out.aq).2 D1.out.pw).mono ?_; (repeat (first | exact Grow.refl _ | refine Grow.drew ?_ | refine Grow.drewN ?_ _)); rintro e w5 ⟨rfl, h5, t5'⟩; have t5 : Turn y.F w4 w5 := (Turn.grow (show Grow w4 _ by (repeat (first | exact Grow.refl _ | refine Grow.drew ?_ | refine Grow.drewN ?_ _))) y.F).and t5'; have hsB := And.intro ((H1.out.blk1 T4.out).turn t5 H1.out.yp).c4.2.2.1 (t5.cell' c4 hgy); clear t5')))
        all_goals
          have X := Lib.hid (H1.out.crash hb1 hg4 H4.out T4.out h5 t5 G1.out hb)
          clear h5 t5 hsB c2 c4
          go_wp2_with fail
          go_ret
          exact ⟨rfl, X.out⟩
set_option maxHeartbeats 8000000 in
set_option maxRecDepth 8000 in
theorem does8_4 {w : World} {base pb l d : Nat} {x y : MB} {s : MS} (h : PX w base pb l d x y s) (hb : base ≤ w.heap.size) {np cp m c q dq : Nat} {P B Q : Option Addr} {L : List PT} {a : Int} {bs : List UInt8} {pk : List Int} (hd : DA w base P np L a B m c bs Q q dq pk) :
    Calls Try.prog 34 #[.pointer (some ⟨pb, 0, none⟩), .agg #[.int .i64 4, .slice P np cp, .int .i64 a, .slice B m c, .slice Q q dq]] w fun e w' => e = .returned (.bool true) ∧ Done8 w w' base pb l d x.p y := by
  have H := Lib.hid h
  have HD := Lib.hid hd
  have HC := Lib.hid hd.cut
  have hcap := hd.cap
  have hpcap := hd.pcap
  obtain ⟨b0, b1, b2, b3⟩ := h.blk.c4
  clear h hd
  obtain ⟨m', hm'⟩ : ∃ m', m' = min m 60 := ⟨_, rfl⟩
  obtain ⟨q', hq'⟩ : ∃ q', q' = min q 200 := ⟨_, rfl⟩
  rw [← hm', ← hq'] at HC
  obtain ⟨bs', hbs'⟩ : ∃ z, z = bs.take m' := ⟨_, rfl⟩
  obtain ⟨pk', hpk'⟩ : ∃ z, z = pk.take q' := ⟨_, rfl⟩
  rw [← hbs', ← hpk'] at HC
  have HM := Lib.hid hm'
  have HQ := Lib.hid hq'
  clear hm' hq' hbs' hpk'
  go_enter Try.func34, Try.ntmps34
  go_upto_if 9 with fail
  go_cut [3] (fun v wx => v = .pointer (some ⟨w.heap.size, 0, none⟩) ∧ wx = w.alloc (.cells #[.int .i64 4, .slice P np cp, .int .i64 a, .slice B m' c, .slice Q q dq] 62))
  case first =>
    by_cases h60 : 60 < m
    · have z1 : decide (60 < m) = true := decide_eq_true h60
      have z2 : decide ((60 : Int) < (m : Int)) = true := decide_eq_true (by omega)
      have i1 : 60 ≤ c := by omega
      have HE := Lib.hid (show 60 = m' by have := HM.out; omega)
      go_wp2_with fail
      all_goals first | (exfalso; omega) | (go_meet; exact ⟨rfl, by rw [← HE.out]⟩)
    · have z1 : decide (60 < m) = false := decide_eq_false h60
      have z2 : decide ((60 : Int) < (m : Int)) = false := decide_eq_false (by omega)
      have HE := Lib.hid (show m = m' by have := HM.out; omega)
      go_wp2_with fail
      all_goals first | (exfalso; omega) | (go_meet; exact ⟨rfl, by rw [← HE.out]⟩)
  case rest =>
    obtain ⟨rfl, hwc⟩ := hcut
    subst hwc
    go_upto_if 17 with fail
    go_cut [3] (fun v wx => v = .pointer (some ⟨w.heap.size, 0, none⟩) ∧ wx = w.alloc (.cells #[.int .i64 4, .slice P np cp, .int .i64 a, .slice B m' c, .slice Q q' dq] 62))
    case first =>
      by_cases h60 : 200 < q
      · have z1 : decide (200 < q) = true := decide_eq_true h60
        have z2 : decide ((200 : Int) < (q : Int)) = true := decide_eq_true (by omega)
        have i1 : 200 ≤ dq := by omega
        have HE := Lib.hid (show 200 = q' by have := HQ.out; omega)
        go_wp2_with fail
        all_goals first | (exfalso; omega) | (go_meet; exact ⟨rfl, by rw [← HE.out]⟩)
      · have z1 : decide (200 < q) = false := decide_eq_false h60
        have z2 : decide ((200 : Int) < (q : Int)) = false := decide_eq_false (by omega)
        have HE := Lib.hid (show q = q' by have := HQ.out; omega)
        go_wp2_with fail
        all_goals first | (exfalso; omega) | (go_meet; exact ⟨rfl, by rw [← HE.out]⟩)
    case rest =>
      obtain ⟨rfl, hwc⟩ := hcut
      obtain ⟨w1, hw1⟩ : ∃ w1, w1 = w.alloc (.cells #[.int .i64 4, .slice P np cp, .int .i64 a, .slice B m' c, .slice Q q' dq] 62) := ⟨_, rfl⟩
      have g1 : Grow w w1 := by rw [hw1]; exact (Grow.refl w).alloc _
      have NB := Row.new w 62 [.int .i64 4, .slice P np cp, .int .i64 a, .slice B m' c, .slice Q q' dq] _ rfl
      rw [← hw1] at hwc NB
      subst hwc
      obtain ⟨g, hg⟩ : ∃ g, g = w.heap.size := ⟨_, rfl⟩
      rw [← hg] at NB ⊢
      obtain ⟨d0, d1, d2, d3, d4⟩ := NB.1.c5
      have hgx : ¬ x.F g := fun q => by have := H.out.lg.1.lt g q; omega
      have hgy : ¬ y.F g := fun q => by have := H.out.rl.1.lt g q; omega
      have H1 := Lib.hid (H.out.keep g1)
      have D1 := Lib.hid (HC.out.keep g1)
      have P1 := Lib.hid (HD.out.pats.keep g1)
      have HW := Lib.hid (fewP_wide (k := 6) (m := 40) HD.out.wide)
      have G1 := Lib.hid g1
      replace b0 := g1.cell b0
      replace b1 := g1.cell b1
      replace b2 := g1.cell b2
      replace b3 := g1.cell b3
      have hb1 : base ≤ wc.heap.size := Nat.le_trans hb g1.size
      clear NB hw1 hg g1 HC HM HQ hcap hpcap
      clear b1 b3 d1 d4
      go_wp2_with fail
      go_region_held3 (fun w' => w'.cell? ⟨pb, 0, none⟩ = some (.pointer (some ⟨x.p, 0, none⟩)) ∧ w'.cell? ⟨pb, 2, none⟩ = some (.pointer (some ⟨y.p, 0, none⟩)) ∧ w'.cell? ⟨g, 2, none⟩ = some (.int .i64 a) ∧ w'.cell? ⟨g, 3, none⟩ = some (.slice B m' c)) (first | exact ⟨b0, b2, d2, d3⟩ | exact hsA | exact hsB) ((first
        | (go_at_call 29; go_loud (refine (pm_storeU (H1.out.lg.1.keep ?_) (D1.out.bytes.keep ?_) (H1.out.outB D1.out.ab).1 a).mono ?_; (repeat (first | exact Grow.refl _ | refine Grow.drew ?_ | refine Grow.drewN ?_ _)); rintro e w4 ⟨rfl, h4, t4'⟩; have t4 : Turn x.F wc w4 := (Turn.grow (show Grow wc _ by (repeat (first | exact Grow.refl _ | refine Grow.drew ?_ | refine Grow.drewN ?_ _))) x.F).and t4'; have hsA := And.intro (H1.out.blk1 t4).c4.1 (And.intro (H1.out.blk1 t4).c4.2.2.1 (And.intro (t4.cell' d2 hgx) (t4.cell' d3 hgx))); clear t4'))
        | (go_at_call 68; go_loud (refine (rm_storeU ((H1.out.rl1 t4).1.keep ?_) ((D1.out.bytes.turn' t4 (H1.out.outB D1.out.ab).1).keep ?_) (H1.out.outB D1.out.ab).2 a).mono ?_; (repeat (first | exact Grow.refl _ | refine Grow.drew ?_ | refine Grow.drewN ?_ _)); rintro e w5 ⟨rfl, h5, t5'⟩; have t5 : Turn y.F w4 w5 := (Turn.grow (show Grow w4 _ by (repeat (first | exact Grow.refl _ | refine Grow.drew ?_ | refine Grow.drewN ?_ _))) y.F).and t5'; have hsB := And.intro ((H1.out.blk1 t4).turn t5 H1.out.yp).c4.1 (And.intro ((H1.out.blk1 t4).turn t5 H1.out.yp).c4.2.2.1 (And.intro (t5.cell' (t4.cell' d2 hgx) hgy) (t5.cell' (t4.cell' d3 hgx) hgy))); clear t5'))))
      all_goals
        have X := Lib.hid (H1.out.done (s' := ⟨storeS 128 s.S a bs', s.T, storeA 128 s.A a m'⟩) hb1 ⟨h4, H1.out.lg.2.1.turn t4 H1.out.lg.2.2, H1.out.lg.2.2⟩ t4 ⟨h5, ((H1.out.rl1 t4).2.1.turn t5 H1.out.rl.2.2), H1.out.rl.2.2⟩ t5 G1.out hb)
        clear h4 t4 h5 t5 hsA hsB b0 b2 d0 d2 d3
        go_wp2_with fail
        go_ret
        exact ⟨ret_bool (by simp), X.out⟩
end Go.Proofs.Ytncjfljmnkfghaa

namespace Go.Proofs.Ytncjfljmnkfghaa
open Go.RowKit

set_option maxHeartbeats 8000000 in
set_option maxRecDepth 8000 in
theorem does8_5 {w : World} {base pb l d : Nat} {x y : MB} {s : MS} (h : PX w base pb l d x y s) (hb : base ≤ w.heap.size) {np cp m c q dq : Nat} {P B Q : Option Addr} {L : List PT} {a : Int} {bs : List UInt8} {pk : List Int} (hd : DA w base P np L a B m c bs Q q dq pk) :
    Calls Try.prog 34 #[.pointer (some ⟨pb, 0, none⟩), .agg #[.int .i64 5, .slice P np cp, .int .i64 a, .slice B m c, .slice Q q dq]] w fun e w' => e = .returned (.bool true) ∧ Done8 w w' base pb l d x.p y := by
  have H := Lib.hid h
  have HD := Lib.hid hd
  have HC := Lib.hid hd.cut
  have hcap := hd.cap
  have hpcap := hd.pcap
  obtain ⟨b0, b1, b2, b3⟩ := h.blk.c4
  clear h hd
  obtain ⟨m', hm'⟩ : ∃ m', m' = min m 60 := ⟨_, rfl⟩
  obtain ⟨q', hq'⟩ : ∃ q', q' = min q 200 := ⟨_, rfl⟩
  rw [← hm', ← hq'] at HC
  obtain ⟨bs', hbs'⟩ : ∃ z, z = bs.take m' := ⟨_, rfl⟩
  obtain ⟨pk', hpk'⟩ : ∃ z, z = pk.take q' := ⟨_, rfl⟩
  rw [← hbs', ← hpk'] at HC
  have HM := Lib.hid hm'
  have HQ := Lib.hid hq'
  clear hm' hq' hbs' hpk'
  go_enter Try.func34, Try.ntmps34
  go_upto_if 9 with fail
  go_cut [3] (fun v wx => v = .pointer (some ⟨w.heap.size, 0, none⟩) ∧ wx = w.alloc (.cells #[.int .i64 5, .slice P np cp, .int .i64 a, .slice B m' c, .slice Q q dq] 62))
  case first =>
    by_cases h60 : 60 < m
    · have z1 : decide (60 < m) = true := decide_eq_true h60
      have z2 : decide ((60 : Int) < (m : Int)) = true := decide_eq_true (by omega)
      have i1 : 60 ≤ c := by omega
      have HE := Lib.hid (show 60 = m' by have := HM.out; omega)
      go_wp2_with fail
      all_goals first | (exfalso; omega) | (go_meet; exact ⟨rfl, by rw [← HE.out]⟩)
    · have z1 : decide (60 < m) = false := decide_eq_false h60
      have z2 : decide ((60 : Int) < (m : Int)) = false := decide_eq_false (by omega)
      have HE := Lib.hid (show m = m' by have := HM.out; omega)
      go_wp2_with fail
      all_goals first | (exfalso; omega) | (go_meet; exact ⟨rfl, by rw [← HE.out]⟩)
  case rest =>
    obtain ⟨rfl, hwc⟩ := hcut
    subst hwc
    go_upto_if 17 with fail
    go_cut [3] (fun v wx => v = .pointer (some ⟨w.heap.size, 0, none⟩) ∧ wx = w.alloc (.cells #[.int .i64 5, .slice P np cp, .int .i64 a, .slice B m' c, .slice Q q' dq] 62))
    case first =>
      by_cases h60 : 200 < q
      · have z1 : decide (200 < q) = true := decide_eq_true h60
        have z2 : decide ((200 : Int) < (q : Int)) = true := decide_eq_true (by omega)
        have i1 : 200 ≤ dq := by omega
        have HE := Lib.hid (show 200 = q' by have := HQ.out; omega)
        go_wp2_with fail
        all_goals first | (exfalso; omega) | (go_meet; exact ⟨rfl, by rw [← HE.out]⟩)
      · have z1 : decide (200 < q) = false := decide_eq_false h60
        have z2 : decide ((200 : Int) < (q : Int)) = false := decide_eq_false (by omega)
        have HE := Lib.hid (show q = q' by have := HQ.out; omega)
        go_wp2_with fail
        all_goals first | (exfalso; omega) | (go_meet; exact ⟨rfl, by rw [← HE.out]⟩)
    case rest =>
      obtain ⟨rfl, hwc⟩ := hcut
      obtain ⟨w1, hw1⟩ : ∃ w1, w1 = w.alloc (.cells #[.int .i64 5, .slice P np cp, .int .i64 a, .slice B m' c, .slice Q q' dq] 62) := ⟨_, rfl⟩
      have g1 : Grow w w1 := by rw [hw1]; exact (Grow.refl w).alloc _
      have NB := Row.new w 62 [.int .i64 5, .slice P np cp, .int .i64 a, .slice B m' c, .slice Q q' dq] _ rfl
      rw [← hw1] at hwc NB
      subst hwc
      obtain ⟨g, hg⟩ : ∃ g, g = w.heap.size := ⟨_, rfl⟩
      rw [← hg] at NB ⊢
      obtain ⟨d0, d1, d2, d3, d4⟩ := NB.1.c5
      have hgx : ¬ x.F g := fun q => by have := H.out.lg.1.lt g q; omega
      have hgy : ¬ y.F g := fun q => by have := H.out.rl.1.lt g q; omega
      have H1 := Lib.hid (H.out.keep g1)
      have D1 := Lib.hid (HC.out.keep g1)
      have P1 := Lib.hid (HD.out.pats.keep g1)
      have HW := Lib.hid (fewP_wide (k := 6) (m := 40) HD.out.wide)
      have G1 := Lib.hid g1
      replace b0 := g1.cell b0
      replace b1 := g1.cell b1
      replace b2 := g1.cell b2
      replace b3 := g1.cell b3
      have hb1 : base ≤ wc.heap.size := Nat.le_trans hb g1.size
      clear NB hw1 hg g1 HC HM HQ hcap hpcap
      clear b1 b3 d1 d2 d3 d4
      go_wp2_with fail
      refine (pm_flushU H1.out.lg.1 0 1024 (by decide) (by decide)).mono ?_
      rintro e w2 ⟨rfl, h2, t2⟩
      have c2 := (H1.out.blk1 t2).c4.2.2.1
      have T2 := Lib.hid t2
      have H2 := Lib.hid h2
      clear h2 t2 b0 b2 d0
      go_wp2_with fail
      refine (rm_flushU (H1.out.rl1 T2.out).1 0 1024).mono ?_
      rintro e w3 ⟨rfl, h3, t3⟩
      have H3 := Lib.hid (PX.both (s' := s.flush 0 1024) H1.out ⟨H2.out, H1.out.lg.2.1.turn T2.out H1.out.lg.2.2, H1.out.lg.2.2⟩ T2.out ⟨h3, ((H1.out.rl1 T2.out).2.1.turn t3 H1.out.rl.2.2), H1.out.rl.2.2⟩ t3)
      have B3 := Lib.hid (H1.out.low hb1 T2.out t3)
      have hb3 : base ≤ w3.heap.size := Nat.le_trans hb1 (Nat.le_trans T2.out.size t3.size)
      have hw3 : wc.heap.size ≤ w3.heap.size := Nat.le_trans T2.out.size t3.size
      have c0 := H3.out.blk.c4.1
      clear h3 t3 c2
      go_wp2_with fail
      refine (pm_fence H3.out.lg.1).mono ?_
      rintro e w4 ⟨rfl, h4, t4⟩
      have H4 := Lib.hid h4
      have T4 := Lib.hid t4
      have c2 := (H3.out.blk1 t4).c4.2.2.1
      clear h4 t4 c0
      go_wp2_with fail
      refine (rm_fence (H3.out.rl1 T4.out).1).mono ?_
      rintro e w5 ⟨rfl, h5, t5⟩
      have X := Lib.hid (PX.both (s' := (s.flush 0 1024).fence) H3.out ⟨H4.out, H3.out.lg.2.1.turn T4.out H3.out.lg.2.2, H3.out.lg.2.2⟩ T4.out ⟨h5, ((H3.out.rl1 T4.out).2.1.turn t5 H3.out.rl.2.2), H3.out.rl.2.2⟩ t5)
      have B5 := Lib.hid (((G1.out.mono hb).trans B3.out).trans (H3.out.low hb3 T4.out t5))
      have hw5 : w.heap.size ≤ w5.heap.size := Nat.le_trans G1.out.size (Nat.le_trans hw3 (Nat.le_trans T4.out.size t5.size))
      clear h5 t5 c2
      go_wp2_with fail
      go_ret
      exact ⟨rfl, x, _, rfl, X.out, B5.out, hw5⟩
set_option maxHeartbeats 8000000 in
set_option maxRecDepth 8000 in
theorem does8_else {w : World} {base pb l d : Nat} {x y : MB} {s : MS} (h : PX w base pb l d x y s) (hb : base ≤ w.heap.size) {np cp m c q dq : Nat} {P B Q : Option Addr} {L : List PT} {a : Int} {bs : List UInt8} {pk : List Int} (hd : DA w base P np L a B m c bs Q q dq pk) (k : Int) (hk : k ≠ 0 ∧ k ≠ 1 ∧ k ≠ 2 ∧ k ≠ 3 ∧ k ≠ 4 ∧ k ≠ 5) :
    Calls Try.prog 34 #[.pointer (some ⟨pb, 0, none⟩), .agg #[.int .i64 k, .slice P np cp, .int .i64 a, .slice B m c, .slice Q q dq]] w fun e w' => e = .returned (.bool true) ∧ Done8 w w' base pb l d x.p y := by
  have e0 : (k == 0) = false := by rw [beq_eq_false_iff_ne]; exact hk.1
  have e1 : (k == 1) = false := by rw [beq_eq_false_iff_ne]; exact hk.2.1
  have e2 : (k == 2) = false := by rw [beq_eq_false_iff_ne]; exact hk.2.2.1
  have e3 : (k == 3) = false := by rw [beq_eq_false_iff_ne]; exact hk.2.2.2.1
  have e4 : (k == 4) = false := by rw [beq_eq_false_iff_ne]; exact hk.2.2.2.2.1
  have e5 : (k == 5) = false := by rw [beq_eq_false_iff_ne]; exact hk.2.2.2.2.2
  clear hk
  have H := Lib.hid h
  have HD := Lib.hid hd
  have HC := Lib.hid hd.cut
  have hcap := hd.cap
  have hpcap := hd.pcap
  obtain ⟨b0, b1, b2, b3⟩ := h.blk.c4
  clear h hd
  obtain ⟨m', hm'⟩ : ∃ m', m' = min m 60 := ⟨_, rfl⟩
  obtain ⟨q', hq'⟩ : ∃ q', q' = min q 200 := ⟨_, rfl⟩
  rw [← hm', ← hq'] at HC
  obtain ⟨bs', hbs'⟩ : ∃ z, z = bs.take m' := ⟨_, rfl⟩
  obtain ⟨pk', hpk'⟩ : ∃ z, z = pk.take q' := ⟨_, rfl⟩
  rw [← hbs', ← hpk'] at HC
  have HM := Lib.hid hm'
  have HQ := Lib.hid hq'
  clear hm' hq' hbs' hpk'
  go_enter Try.func34, Try.ntmps34
  go_upto_if 9 with fail
  go_cut [3] (fun v wx => v = .pointer (some ⟨w.heap.size, 0, none⟩) ∧ wx = w.alloc (.cells #[.int .i64 k, .slice P np cp, .int .i64 a, .slice B m' c, .slice Q q dq] 62))
  case first =>
    by_cases h60 : 60 < m
    · have z1 : decide (60 < m) = true := decide_eq_true h60
      have z2 : decide ((60 : Int) < (m : Int)) = true := decide_eq_true (by omega)
      have i1 : 60 ≤ c := by omega
      have HE := Lib.hid (show 60 = m' by have := HM.out; omega)
      go_wp2_with fail
      all_goals first | (exfalso; omega) | (go_meet; exact ⟨rfl, by rw [← HE.out]⟩)
    · have z1 : decide (60 < m) = false := decide_eq_false h60
      have z2 : decide ((60 : Int) < (m : Int)) = false := decide_eq_false (by omega)
      have HE := Lib.hid (show m = m' by have := HM.out; omega)
      go_wp2_with fail
      all_goals first | (exfalso; omega) | (go_meet; exact ⟨rfl, by rw [← HE.out]⟩)
  case rest =>
    obtain ⟨rfl, hwc⟩ := hcut
    subst hwc
    go_upto_if 17 with fail
    go_cut [3] (fun v wx => v = .pointer (some ⟨w.heap.size, 0, none⟩) ∧ wx = w.alloc (.cells #[.int .i64 k, .slice P np cp, .int .i64 a, .slice B m' c, .slice Q q' dq] 62))
    case first =>
      by_cases h60 : 200 < q
      · have z1 : decide (200 < q) = true := decide_eq_true h60
        have z2 : decide ((200 : Int) < (q : Int)) = true := decide_eq_true (by omega)
        have i1 : 200 ≤ dq := by omega
        have HE := Lib.hid (show 200 = q' by have := HQ.out; omega)
        go_wp2_with fail
        all_goals first | (exfalso; omega) | (go_meet; exact ⟨rfl, by rw [← HE.out]⟩)
      · have z1 : decide (200 < q) = false := decide_eq_false h60
        have z2 : decide ((200 : Int) < (q : Int)) = false := decide_eq_false (by omega)
        have HE := Lib.hid (show q = q' by have := HQ.out; omega)
        go_wp2_with fail
        all_goals first | (exfalso; omega) | (go_meet; exact ⟨rfl, by rw [← HE.out]⟩)
    case rest =>
      obtain ⟨rfl, hwc⟩ := hcut
      obtain ⟨w1, hw1⟩ : ∃ w1, w1 = w.alloc (.cells #[.int .i64 k, .slice P np cp, .int .i64 a, .slice B m' c, .slice Q q' dq] 62) := ⟨_, rfl⟩
      have g1 : Grow w w1 := by rw [hw1]; exact (Grow.refl w).alloc _
      have NB := Row.new w 62 [.int .i64 k, .slice P np cp, .int .i64 a, .slice B m' c, .slice Q q' dq] _ rfl
      rw [← hw1] at hwc NB
      subst hwc
      obtain ⟨g, hg⟩ : ∃ g, g = w.heap.size := ⟨_, rfl⟩
      rw [← hg] at NB ⊢
      obtain ⟨d0, d1, d2, d3, d4⟩ := NB.1.c5
      have hgx : ¬ x.F g := fun q => by have := H.out.lg.1.lt g q; omega
      have hgy : ¬ y.F g := fun q => by have := H.out.rl.1.lt g q; omega
      have H1 := Lib.hid (H.out.keep g1)
      have D1 := Lib.hid (HC.out.keep g1)
      have P1 := Lib.hid (HD.out.pats.keep g1)
      have HW := Lib.hid (fewP_wide (k := 6) (m := 40) HD.out.wide)
      have G1 := Lib.hid g1
      replace b0 := g1.cell b0
      replace b1 := g1.cell b1
      replace b2 := g1.cell b2
      replace b3 := g1.cell b3
      have hb1 : base ≤ wc.heap.size := Nat.le_trans hb g1.size
      clear NB hw1 hg g1 HC HM HQ hcap hpcap
      clear b0 b1 b2 b3 d1 d2 d3 d4
      go_wp2_with fail
      go_ret
      exact ⟨rfl, x, s, rfl, H1.out, G1.out.mono hb, G1.out.size⟩
end Go.Proofs.Ytncjfljmnkfghaa

namespace Go.Proofs.Ytncjfljmnkfghaa
open Go.RowKit

theorem does8 {w : World} {base pb l d : Nat} {x y : MB} {s : MS} (h : PX w base pb l d x y s) (hb : base ≤ w.heap.size) {np cp m c q dq : Nat} {P B Q : Option Addr} {L : List PT} {a : Int} {bs : List UInt8} {pk : List Int} (hd : DA w base P np L a B m c bs Q q dq pk) (k : Int) :
    Calls Try.prog 34 #[.pointer (some ⟨pb, 0, none⟩), .agg #[.int .i64 k, .slice P np cp, .int .i64 a, .slice B m c, .slice Q q dq]] w fun e w' => e = .returned (.bool true) ∧ Done8 w w' base pb l d x.p y := by
  by_cases h0 : k = 0
  · subst h0; exact does8_0 h hb hd
  by_cases h1 : k = 1
  · subst h1; exact does8_1 h hb hd
  by_cases h2 : k = 2
  · subst h2; exact does8_2 h hb hd
  by_cases h3 : k = 3
  · subst h3; exact does8_3 h hb hd
  by_cases h4 : k = 4
  · subst h4; exact does8_4 h hb hd
  by_cases h5 : k = 5
  · subst h5; exact does8_5 h hb hd
  exact does8_else h hb hd k ⟨h0, h1, h2, h3, h4, h5⟩
end Go.Proofs.Ytncjfljmnkfghaa
