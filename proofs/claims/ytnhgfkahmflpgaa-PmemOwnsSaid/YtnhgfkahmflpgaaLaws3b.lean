/- The walk of the statement PmemPlays. -/
import Derived.Test.YtnhgfkahmflpgaaStep
import Derived.Deep.CutBlock
namespace Go.Proofs.Ytnhgfkahmflpgaa
open Go.RowKit

def PlayInv (W wr : World) (p0 : Nat) (y : MB) (N n lim : Nat) (t : Value) : Prop := ∃ i : Nat, t = .int .i64 (i : Int) ∧ i ≤ n ∧ i ≤ lim ∧ Both W wr p0 y N

set_option maxHeartbeats 8000000 in
set_option maxRecDepth 8000 in
theorem law_PmemPlays (size : Int) (A : Option Addr) (n c : Nat) (L : List Dd) (W : World) (hr : RD W A n L) (hs : size ≤ 9223372036854775807) :
    Calls Try.prog 5 #[.int .i64 size, .slice A n c] W fun e w' => e = .returned (.bool true) ∧ Below W.heap.size W w' := by
  have HR := Lib.hid hr
  clear hr
  go_enter Try.func5, Try.ntmps5
  go_upto_if 11 with fail
  go_cut [0] (fun s wx => ∃ z : Int, s = .int .i64 z ∧ z ≤ 512 ∧ wx = W)
  case first =>
    by_cases h5 : 512 < size
    · have z1 : decide (512 < size) = true := decide_eq_true h5
      obtain ⟨r, hr⟩ : ∃ r, r = Int.tmod size 513 := ⟨_, rfl⟩
      have hr2 : r ≤ 512 := by rw [hr, Int.tmod_eq_emod_of_nonneg (by omega)]; omega
      have e1 : Int.tmod size 513 = r := hr.symm
      clear hr
      go_wp2_with fail
      go_meet
      exact ⟨r, rfl, hr2, rfl⟩
    · have z1 : decide (512 < size) = false := decide_eq_false h5
      go_wp2_with fail
      go_meet
      exact ⟨size, rfl, by omega, rfl⟩
  case rest =>
    obtain ⟨z, rfl, hz, hw⟩ := hcut
    have hw' := hw.symm
    subst hw'
    clear hs
    cases hsz : sizeB z with
    | false =>
      have HS := Lib.hid hsz
      clear hsz hz
      go_wp2_with fail
      refine (pm_new_no z HS.out _).mono ?_
      rintro e w1 ⟨rfl, rfl⟩
      go_wp2_with fail
      refine (rm_new_no z HS.out _).mono ?_
      rintro e w1 ⟨rfl, rfl⟩
      go_wp2_with fail
      refine (lives3 _).mono ?_
      rintro e w3 ⟨rfl, g3⟩
      go_wp2_with fail
      go_ret
      exact ⟨rfl, g3⟩
    | true =>
      obtain ⟨h1, h2, h3⟩ := sizeB_iff.1 hsz
      obtain ⟨m, rfl⟩ : ∃ m : Nat, z = (m : Int) := ⟨z.toNat, by omega⟩
      obtain ⟨N, hn⟩ : ∃ N, m = 8 * N := ⟨m / 8, by omega⟩
      have hN8 : N % 8 = 0 ∧ 8 ≤ N ∧ N ≤ 131072 := by omega
      have HN := Lib.hid (show N ≤ 50000 by omega)
      have HP := fun w => Lib.hid (pm_new_yes N hN8 w)
      have HQ := fun w => Lib.hid (rm_new_yes N hN8 w)
      rw [← hn] at HP HQ
      clear hsz h1 h2 h3 hn hN8 hz
      go_wp2_with fail
      refine (HP _).out.mono ?_
      rintro e w1 ⟨x, rfl, hP, hx, g1⟩
      have HP1 := Lib.hid hP
      have HX1 := Lib.hid hx
      have HG1 := Lib.hid g1
      clear hP hx g1
      go_wp2_with fail
      refine (HQ _).out.mono ?_
      rintro e w2 ⟨y, rfl, hR, hy, g2⟩
      have HBO := Lib.hid (both_new HP1.out HX1.out HG1.out hR hy g2)
      clear hR hy g2 HP HQ
      go_upto_block 0 with fail
      go_cut [7] (fun i wx => (∃ k : Int, i = .int .i64 k) ∧ Grow W wx)
      case first =>
        go_wp2_with fail
        go_loopw [7] (fun t wr => PlayInv W wr x.p y N n 30 t) (fun t _ => 30 - (intOf t).toNat)
        case atStart => exact ⟨0, rfl, Nat.zero_le _, Nat.zero_le _, HBO.out⟩
        case round =>
          obtain ⟨i, rfl, hi, hi2, hbo⟩ := hrel
          have HB := Lib.hid hbo
          have HG := Lib.hid (show Grow W wr by obtain ⟨_, _, _, _, _, _, g⟩ := hbo; exact g)
          clear hbo
          by_cases hlt : i < n
          · by_cases hlt2 : i < 30
            · obtain ⟨b, o, e0, rfl, hb, hok, c0, c1, c2, c3, c4⟩ := HR.out.at_ hlt
              replace c0 := HG.out.cell c0; replace c1 := HG.out.cell c1; replace c2 := HG.out.cell c2; replace c3 := HG.out.cell c3; replace c4 := HG.out.cell c4
              have HOK := Lib.hid hok
              clear hok
              go_wp2_with fail
              refine (deed_step HB.out HOK.out).mono ?_
              rintro r w3 ⟨rfl, hb3⟩
              have HB3 := Lib.hid hb3
              clear c0 c1 c2 c3 c4 hb3
              go_wp2_with fail
              refine (like_step HB3.out HN.out).mono ?_
              rintro r w4 ⟨rfl, hb4⟩
              have X : PlayInv W w4 x.p y N n 30 (.int .i64 ((i : Int) + 1)) := ⟨i + 1, by simp, hlt, hlt2, hb4⟩
              clear hb4
              go_wp2_with fail
              go_roundw
              case rel => first | exact X | ((repeat apply Exists.intro); exact X) | ((repeat apply Exists.intro); refine ⟨X, ?_⟩; rfl)
              case measure => first | exact meas hlt2 | (simp [intOf]; omega)
            · go_wp2_with fail
              go_meet
              exact ⟨⟨_, rfl⟩, HG.out⟩
          · go_wp2_with fail
            go_meet
            exact ⟨⟨_, rfl⟩, HG.out⟩
      case rest =>
        obtain ⟨⟨k, rfl⟩, G⟩ := hcut
        go_wp2_with fail
        refine (lives3 _).mono ?_
        rintro e w3 ⟨rfl, g3⟩
        go_wp2_with fail
        go_ret
        exact ⟨rfl, G.trans g3⟩
end Go.Proofs.Ytnhgfkahmflpgaa
