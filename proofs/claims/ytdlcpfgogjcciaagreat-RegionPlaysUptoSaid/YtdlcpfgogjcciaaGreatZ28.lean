/- The walk of the statement RegionPlays. No statement of the seat is proved here. -/
import Derived.Test.YtdlcpfgogjcciaaGreatZ27
namespace Go.Proofs.YtdlcpfgogjcciaaGreat
open Go.RowKit Go.Great

def EInv (w1 wr : World) (t : Value) : Prop := ∃ i : Nat, t = .int .i64 (i : Int) ∧ i ≤ 10 ∧ wr = w1
theorem RD20.epAt {w : World} {d z : Nat} {y : MB} {t : CS} (h : RD20 w d z y t) {k : Int} (hk : 1 ≤ k ∧ k ≤ 8) : w.cell? ⟨z, (k.toNat - 1) * 46, none⟩ = some (.int .i64 (t.side k).ep) := by
  have hs := h.2.2.2.2.2.2.at hk
  have h1 := h.2.2.1
  rw [cellsL_cut hs] at h1
  have h2 := h1.1.range_mid (o := (k.toNat - 1) * 46) ((take_len hs).trans (by omega))
  exact h2 0 _ rfl

set_option maxHeartbeats 16000000 in
set_option maxRecDepth 8000 in
theorem law_RegionPlays (A0 : Option Addr) (n0 c0 : Nat) (L : List Dq) (w1 : World) (hd : DD w1 A0 n0 L) :
    Calls Tryz.prog 3 #[.slice A0 n0 c0] w1 fun e w' => e = .returned (.bool true) ∧ Below w1.heap.size w1 w' := by
  have HDD := Lib.hid hd
  have HG1 := Lib.hid (Grow.refl w1)
  clear hd
  go_enter Tryz.func3, Tryz.ntmps3
  go_wp2_with fail
  refine (begin20 w1).mono ?_
  rintro r w2 ⟨pb, rfl, hB⟩
  have HB0 := Lib.hid hB
  clear hB
  go_upto_block 0 with fail
  go_cut [4] (fun i wx => (∃ k : Int, i = .int .i64 k) ∧ ∃ s, B20 w1 wx pb s)
  case first =>
    go_wp2_with fail
    go_loopw [4] (fun t wr => LInv w1 wr pb n0 25 t) (fun t _ => 25 - (intV t).toNat)
    case atStart => exact ⟨0, rfl, Nat.zero_le _, Nat.zero_le _, _, HB0.out⟩
    case round =>
      obtain ⟨i, rfl, hi, hi2, s, hbo⟩ := hrel
      have HB := Lib.hid hbo
      have HG := Lib.hid (show Grow w1 wr by obtain ⟨_, _, _, _, _, h⟩ := hbo; exact h.grow)
      clear hbo
      by_cases hlt : i < n0
      · by_cases hlt2 : i < 25
        · obtain ⟨b, o, e, rfl, hb, hok, hrg⟩ := HDD.out.at_ hlt
          have HOK := Lib.hid (hok.keep HG1.out)
          have HRG := Lib.hid (range_keep (range_keep hrg HG1.out) HG.out)
          clear hok hrg
          go_upto_region 7 with (fail)
          refine wp_region_list ?_
          refine wpList_runTo rfl (some 22) rfl (.pointer (some ⟨pb, 0, none⟩)) wr (by first | (go_simp; done) | rfl) ?_
          refine wpList_runTo rfl (some 23) rfl (.slice (some ⟨b, o, none⟩) n0 c0) wr (by first | (go_simp; done) | rfl) ?_
          refine wpList_runTo rfl (some 24) rfl (.int .i64 (i : Int)) wr (by first | (go_simp; done) | rfl) ?_
          refine wpList_runTo rfl (some 25) rfl (.pointer (some ⟨b, o + i * 46, none⟩)) wr (by go_simp) ?_
          refine wpList_loadMid rfl 42 (.tmp 25) rfl (some 26) rfl b (o + i * 46) (by first | (go_simp; done) | rfl) e.cells _ HRG.out Tryz.underlying42 rfl deed_size ?_
          refine wpList_callC rfl (some 27) rfl 7 #[.pointer (some ⟨pb, 0, none⟩), .agg e.cells.toArray] (by go_simp) _ (does20 HB.out HOK.out) (fun r w' k => ⟨_, k.1⟩) ?_
          rintro v w3 ⟨he, hb3⟩
          obtain rfl : v = .bool true := by injection he
          have X : LInv w1 w3 pb n0 25 (.int .i64 ((i : Int) + 1)) := ⟨i + 1, by simp, hlt, hlt2, _, hb3⟩
          have HX := Lib.hid X
          clear he X hb3 HRG HOK HB
          go_wp2_with fail
          go_roundw
          case rel => first | exact HX.out | ((repeat apply Exists.intro); exact HX.out) | ((repeat apply Exists.intro); refine ⟨HX.out, ?_⟩; rfl)
          case measure => first | (simp [intV]; omega)
        · go_wp2_with fail
          go_meet
          exact ⟨⟨_, rfl⟩, s, HB.out⟩
      · go_wp2_with fail
        go_meet
        exact ⟨⟨_, rfl⟩, s, HB.out⟩
  case rest =>
    obtain ⟨⟨ki, rfl⟩, s, c, d, z, x, y, h⟩ := hcut
    obtain ⟨w3, hw3⟩ : ∃ j, j = wc := ⟨_, rfl⟩
    rw [← hw3] at h ⊢
    have HP3 := Lib.hid h
    clear hw3 h HB0
    go_wp2_with fail
    refine (like20 HP3.out).mono ?_
    rintro r w4 ⟨rfl, g4⟩
    have HP4 := Lib.hid (HP3.out.keep g4)
    clear g4 HP3
    go_upto_block 2 with fail
    go_cut [7] (fun i wx => (∃ k : Int, i = .int .i64 k) ∧ wx = w4)
    case first =>
      go_wp2_with fail
      go_loopw [7] (fun t wr => EInv w4 wr t) (fun t _ => 10 - (intV t).toNat)
      case atStart => exact ⟨0, rfl, by omega, rfl⟩
      case round =>
        obtain ⟨i, rfl, hi, rfl⟩ := hrel
        by_cases hlt : i ≤ 9
        · have z9 : decide ((i : Int) ≤ 9) = true := decide_eq_true (by omega)
          have p1 := HP4.out.row.1.2 1 _ rfl
          have p3 := HP4.out.row.1.2 3 _ rfl
          by_cases hk : 1 ≤ i ∧ i ≤ 8
          · have hk' : (1 : Int) ≤ (i : Int) ∧ (i : Int) ≤ 8 := by omega
            have hep := HP4.out.rd.epAt hk'
            obtain ⟨ep, hepv⟩ : ∃ j, j = (s.side (i : Int)).ep := ⟨_, rfl⟩
            have HEP := Lib.hid (show (if isB (i : Int) = true then (s.side (i : Int)).ep else 0) = ep by rw [if_pos (show isB (i : Int) = true from decide_eq_true hk'), hepv])
            rw [← hepv] at hep
            clear hepv
            have hep2 : wr.cell? ⟨z, (i - 1) * 46, none⟩ = some (.int .i64 ep) := by simpa using hep
            have dd := HP4.out.rd.2.1.1.2 1 _ rfl
            have d0 : decide (1 ≤ (i : Int)) = true := decide_eq_true hk'.1
            have d1 : decide ((i : Int) ≤ 8) = true := decide_eq_true hk'.2
            have b0 : 0 ≤ (i : Int) - 1 := by omega
            have b1 : (i : Int) - 1 < 8 := by omega
            have b2 : ((i : Int) - 1).toNat < 8 := by omega
            have e1 : wrap64 ((i : Int) - 1) = (i : Int) - 1 := IntWalk.wrap64_in _ (by omega)
            have X : EInv wr wr (.int .i64 ((i : Int) + 1)) := ⟨i + 1, by simp, by clear e1; omega, rfl⟩
            have HX := Lib.hid X
            clear X
            go_wp2_with fail
            refine (card_epoch HP4.out.cd (i : Int)).mono ?_
            rintro r w5 ⟨rfl, rfl⟩
            rw [HEP.out]
            go_wp2_with fail
            go_roundw
            case rel => first | exact HX.out | ((repeat apply Exists.intro); exact HX.out) | ((repeat apply Exists.intro); refine ⟨HX.out, ?_⟩; rfl)
            case measure => (clear e1; simp [intV]; omega)
          · have HEP := Lib.hid (show (if isB (i : Int) = true then (s.side (i : Int)).ep else 0) = 0 by rw [if_neg (by unfold isB; rw [decide_eq_true_iff]; omega)])
            have X : EInv wr wr (.int .i64 ((i : Int) + 1)) := ⟨i + 1, by simp, by omega, rfl⟩
            have HX := Lib.hid X
            clear X
            by_cases h1 : 1 ≤ i
            · have d0 : decide (1 ≤ (i : Int)) = true := decide_eq_true (by omega)
              have d1 : decide ((i : Int) ≤ 8) = false := decide_eq_false (by omega)
              go_wp2_with fail
              refine (card_epoch HP4.out.cd (i : Int)).mono ?_
              rintro r w5 ⟨rfl, rfl⟩
              rw [HEP.out]
              go_wp2_with fail
              go_roundw
              case rel => first | exact HX.out | ((repeat apply Exists.intro); exact HX.out) | ((repeat apply Exists.intro); refine ⟨HX.out, ?_⟩; rfl)
              case measure => (simp [intV]; omega)
            · have d0 : decide (1 ≤ (i : Int)) = false := decide_eq_false (by omega)
              go_wp2_with fail
              refine (card_epoch HP4.out.cd (i : Int)).mono ?_
              rintro r w5 ⟨rfl, rfl⟩
              rw [HEP.out]
              go_wp2_with fail
              go_roundw
              case rel => first | exact HX.out | ((repeat apply Exists.intro); exact HX.out) | ((repeat apply Exists.intro); refine ⟨HX.out, ?_⟩; rfl)
              case measure => (simp [intV]; omega)
        · have z9 : decide ((i : Int) ≤ 9) = false := decide_eq_false (by omega)
          go_wp2_with fail
          go_meet
          exact ⟨⟨_, rfl⟩, rfl⟩
    case rest =>
      obtain ⟨⟨kj, rfl⟩, rfl⟩ := hcut
      have HG := Lib.hid HP4.out.grow
      clear HP4
      go_wp2_with fail
      refine (new_none _).mono ?_
      rintro r w5 ⟨rfl, g5⟩
      go_wp2_with fail
      refine (pm_new_yes 8 (by decide) _).mono ?_
      rintro r w6 ⟨x6, rfl, hx6, -, g6⟩
      go_wp2_with fail
      refine (new_small hx6 (by decide)).mono ?_
      rintro r w7 ⟨rfl, g7⟩
      go_wp2_with fail
      refine (lives20 _).mono ?_
      rintro r w8 ⟨rfl, g8⟩
      go_wp2_with fail
      go_ret
      exact ⟨rfl, (((HG.out.trans g5).trans g6).trans g7).trans g8⟩
end Go.Proofs.YtdlcpfgogjcciaaGreat
