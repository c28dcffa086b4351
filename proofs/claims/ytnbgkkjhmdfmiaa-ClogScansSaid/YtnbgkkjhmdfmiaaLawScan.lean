/- The walk of the statement ClogScans. -/
import Derived.Test.YtnbgkkjhmdfmiaaLawScan0
import Derived.Deep.CutBlock
import Derived.Deep.DeepCutAuto
namespace Go.Proofs.Ytnbgkkjhmdfmiaa
open Go.RowKit

set_option maxHeartbeats 2000000 in
set_option maxRecDepth 4000 in
theorem law_ClogScans (A : Option Addr) (n c : Nat) (L : List R5) (B : Option Addr) (m d : Nat) (ys : List UInt8) (at_ en ep hd : Int) (W : World) (hr : RR W A n L) (hy : ys.length = m) (hry : RB W W.heap.size B ys)
    (hat : -9223372036854775808 ≤ at_) (hat' : at_ ≤ 9223372036854775807) (hen : en ≤ 9223372036854775807) :
    Calls Try.prog 7 #[.slice A n c, .slice B m d, .int .i64 at_, .int .i64 en, .int .i64 ep, .int .i64 hd] W fun e w' => e = .returned (.bool true) ∧ Below W.heap.size W w' := by
  have HY := Lib.hid hy
  clear hy
  go_enter Try.func7, Try.ntmps7
  go_upto_block 0 with fail
  go_cut [13, 14] (fun b i wx => ∃ (m1 c1 : Nat) (A1 : Option Addr) (bs : List UInt8) (k : Int), i = .int .i64 k ∧ b = .slice A1 m1 c1 ∧ m1 ≤ 12000 ∧ Own wx W.heap.size A1 m1 c1 bs ∧ Grow W wx)
  case first =>
    go_wp2_with fail
    go_loopw [13, 14] (fun b i wr => LawInv W wr n b i) (fun _ i _ => 12 - (intOf i).toNat)
    case atStart => exact ⟨0, 0, 0, none, [], rfl, by omega, by omega, rfl, by omega, Own.nil _ _, Grow.refl _⟩
    case round =>
      obtain ⟨k, m1, c1, A1, bs, rfl, hk, hk12, rfl, hm1, ho, G⟩ := hrel
      by_cases hlt : k < n
      · by_cases hlt2 : k < 12
        · obtain ⟨b, o, r, -, rfl, hbb, x0, x1, x2, x3, x4⟩ := (hr.keep G).at_ hlt
          go_wp2_with fail
          refine (cut16 _ _ _ _ _ _).mono ?_
          rintro e w1 ⟨⟨s', hs', rfl⟩, g1⟩
          replace g1 : Grow _ w1 := g1
          have G1 := G.trans g1
          have hsz := Below.size G1
          have hsz1 := Below.size g1
          clear x0 x1 x2 x3 x4
          have ho1 : Own w1 W.heap.size A1 m1 c1 bs := ho.keep g1
          clear ho G g1
          go_wp2_with fail
          refine (renc_any _ _ _ _ _ _).mono ?_
          rintro e w2 ⟨A2, n2, c2, e2, eb, rfl, hs2, hn2, g2⟩
          have ho2 : Own w2 W.heap.size A1 m1 c1 bs := ho1.keep g2
          have G2 := G1.trans g2
          have hsz2 := Below.size G2
          clear ho1 G1 g2
          go_wp2_with (at_builtin; refine wpList_appB rfl (.tmp 46) (.tmp 47) rfl W.heap.size _ bs rfl ho2.2.2 _ A2 _ eb n2 hs2.1.symm rfl hs2.2.2 (by have := ho2.1; have := hs2.1; omega) hsz2 ?_; intro v3 w3 q1 q2 q3 q4; clear q3 q4; obtain ⟨A3, c3, rfl, ho3⟩ := Own.ofOB q1 (m1 + n2) (by have := ho2.1; have := hs2.1; rw [List.length_append]; omega) (by omega); clear q1)
          have X : LawInv W w3 n (.slice A3 (m1 + n2) c3) (.int .i64 ((k : Int) + 1)) := ⟨k + 1, m1 + n2, c3, A3, _, by simp, by omega, by omega, rfl, by omega, ho3, G2.low q2⟩
          go_roundw
          case rel => first | exact X | ((repeat apply Exists.intro); exact X) | ((repeat apply Exists.intro); refine ⟨X, ?_⟩; rfl)
          case measure => simp [intOf]; omega
        · go_wp2_with fail
          go_meet
          exact ⟨m1, c1, A1, bs, _, rfl, rfl, by omega, ho, G⟩
      · go_wp2_with fail
        go_meet
        exact ⟨m1, c1, A1, bs, _, rfl, rfl, by omega, ho, G⟩
  case rest =>
    obtain ⟨m1, c1, A1, bs, k, rfl, rfl, hm1, ho, G⟩ := hcut
    go_wp2_with fail
    refine (log_w ho.sl ho.cap en hen).mono ?_
    rintro e w1 ⟨A2, c2, rfl, ho2, g1⟩
    replace ho2 := ho2.low (Below.size G)
    replace G := G.trans g1
    obtain ⟨g, rfl, hg1, hg2⟩ := ho2.row (by omega)
    generalize logB en bs = lb at ho2
    clear ho g1
    go_upto_if 53 with fail
    go_cut [2] (fun a wx => ∃ q : Nat, a = .int .i64 (q : Int) ∧ (q : Int) ≤ 9223372036854775807 ∧ wx = w1)
    case first =>
      by_cases hneg : at_ < 0
      · have e1 : wrap64 (at_ + 1) = at_ + 1 := IntWalk.wrap64_in _ (by omega)
        have e2 : wrap64 (-(at_ + 1)) = -(at_ + 1) := IntWalk.wrap64_in _ (by omega)
        have hb : decide (at_ < 0) = true := decide_eq_true hneg
        go_wp2_with fail
        go_meet
        exact ⟨(-(at_ + 1)).toNat, by rw [Int.toNat_of_nonneg (by omega)], by omega, rfl⟩
      · have hb : decide (at_ < 0) = false := decide_eq_false hneg
        go_wp2_with fail
        go_meet
        exact ⟨at_.toNat, by rw [Int.toNat_of_nonneg (by omega)], by omega, rfl⟩
    case rest =>
      obtain ⟨q, rfl, hq1, rfl⟩ := hcut
      clear hat hat'
      obtain ⟨p, hp⟩ : ∃ p, p = q % 1000 := ⟨_, rfl⟩
      have hp1 : p < 1000 := by omega
      have e1 : Int.tmod (q : Int) 1000 = (p : Int) := by rw [Int.tmod_eq_emod_of_nonneg (by omega)]; omega
      clear hp
      go_upto_block 2 with fail
      go_cut [18] (fun i wx => ∃ (k : Int) (bs' : List UInt8), i = .int .i64 k ∧ Own wx W.heap.size (some ⟨g, 0, none⟩) 1024 c2 bs' ∧ Grow W wx)
      case first =>
        go_wp2_with fail
        go_loopw [18] (fun i wr => OverInv W wr g c2 m i) (fun i _ => 30 - (intOf i).toNat)
        case atStart => exact ⟨0, lb, rfl, by omega, by omega, ho2, G⟩
        case round =>
          obtain ⟨k, bs', rfl, hk, hk30, ho, G⟩ := hrel
          by_cases hlt : k < m
          · by_cases hlt2 : k < 30
            · obtain ⟨b, o, rfl, hb, hcc⟩ := (hry.below G).at_ (by rw [HY.out]; exact hlt)
              obtain ⟨j, hj⟩ : ∃ j, j = (p + k) % 1016 := ⟨_, rfl⟩
              have hj1 : j < 1016 := by omega
              have e2 : Int.tmod ((p : Int) + (k : Int)) 1016 = (j : Int) := by rw [Int.tmod_eq_emod_of_nonneg (by omega)]; omega
              clear hj
              have e3 : (8 + (j : Int)).toNat = 8 + j := by omega
              have c0 := OB.cellAt (by rw [ho.1]) ho.2.2 (8 + j) (by rw [ho.1]; omega)
              have f0 := OB.frozenAt (by rw [ho.1]) ho.2.2 (8 + j)
              obtain ⟨bs2, ho2⟩ := ho.setB (8 + j) (ys[k]'(by rw [HY.out]; exact hlt))
              go_wp2_with fail
              have X : OverInv W (wr.setCell ⟨g, 8 + j, none⟩ (.int .u8 ((ys[k]'(by rw [HY.out]; exact hlt)).toNat : Int))) g c2 m (.int .i64 ((k : Int) + 1)) := ⟨k + 1, bs2, by simp, by omega, by omega, ho2, G.setCell hg1 _⟩
              go_roundw
              case rel => first | exact X | ((repeat apply Exists.intro); exact X) | ((repeat apply Exists.intro); refine ⟨X, ?_⟩; rfl)
              case measure => simp [intOf]; omega
            · go_wp2_with fail
              go_meet
              exact ⟨_, bs', rfl, ho, G⟩
          · go_wp2_with fail
            go_meet
            exact ⟨_, bs', rfl, ho, G⟩
      case rest =>
        obtain ⟨k2, bs', rfl, ho, G'⟩ := hcut
        clear G ho2 e1 hp1 HY hry hr
        have hsl := ho.sl
        have hcap := ho.cap
        have h1 := hsl.drop (k := 1) (by omega) hcap
        clear ho
        go_wp2_with fail
        refine (clog_scan hsl rfl hcap ep hd).mono ?_
        rintro e w2 ⟨v, u, rfl, ht, g2⟩
        have hl := scanP_len hsl.1 ep hd
        have hsl2 := hsl.keep g2
        replace h1 := h1.keep g2
        replace G' := G'.trans g2
        clear g2
        go_wp2_with fail
        refine (ref16_scan hsl2 rfl hcap ep hd).mono ?_
        rintro e w3 ⟨v', u', rfl, ht', g3⟩
        replace ht := ht.keep g3
        replace h1 := h1.keep g3
        replace G' := G'.trans g3
        obtain ⟨X1, d1, rfl, -, r1⟩ := OR.rr ht.1
        obtain ⟨X2, d2, rfl, -, r2⟩ := OI.ri ht.2.1
        obtain ⟨X3, d3, rfl, -, r3⟩ := OR.rr ht'.1
        obtain ⟨X4, d4, rfl, -, r4⟩ := OI.ri ht'.2.1
        clear ht ht' g3 hsl hsl2
        generalize scanP bs' ep hd = sp at r1 r2 r3 r4 hl
        have l1 : (sp.map (·.1)).length ≤ 60000 := by simp; omega
        have l2 : (sp.map (·.2)).length ≤ 60000 := by simp; omega
        generalize sp.map (·.1) = L1 at r1 r3 l1
        generalize sp.map (·.2) = L2 at r2 r4 l2
        go_wp2_with fail
        refine (recs_same r1 r3 l1).mono ?_
        rintro e w4 ⟨rfl, k4, rfl⟩
        replace r2 := r2.keep ((Grow.refl _).drewN k4)
        replace r4 := r4.keep ((Grow.refl _).drewN k4)
        clear r1 r3
        replace G' := G'.drewN k4
        generalize w3.drewN k4 = w5 at *
        go_wp2_with fail
        refine (ints_same r2 r4 l2).mono ?_
        rintro e w6 ⟨rfl, k5, rfl⟩
        clear r2 r4
        replace G' := G'.drewN k5
        generalize w5.drewN k5 = w7 at *
        go_wp2_with fail
        refine (clog_scan_size (k := 1023) (by omega) ep hd).mono ?_
        rintro e w8 ⟨rfl, rfl⟩
        go_wp2_with fail
        refine (lives16_any _).mono ?_
        rintro e w9 ⟨rfl, rfl⟩
        go_wp2_with fail
        go_ret
        exact ⟨rfl, G'⟩
end Go.Proofs.Ytnbgkkjhmdfmiaa
