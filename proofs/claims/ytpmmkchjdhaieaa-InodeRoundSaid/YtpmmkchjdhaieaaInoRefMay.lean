/- The reference's May. -/
import Derived.Test.YtpmmkchjdhaieaaInoRefPure
import Derived.Test.YtpmmkchjdhaieaaInoEq
import Derived.Test.YtpmmkchjdhaieaaInoBlk
namespace Go.Proofs.Ytpmmkchjdhaieaa
open Go.RowKit

theorem ino_at3 {k l s b0 b1 b2 b3 o0 o1 o2 o3 o4 o5 o6 o7 : Int} {m : Nat} (h : m < 4) : ([.int .i64 k, .int .i64 l, .int .i64 s, .int .i64 b0, .int .i64 b1, .int .i64 b2, .int .i64 b3, .int .i64 o0, .int .i64 o1, .int .i64 o2, .int .i64 o3, .int .i64 o4, .int .i64 o5, .int .i64 o6, .int .i64 o7] : List Value)[3 + m]? = some (.int .i64 ([b0, b1, b2, b3].getD m 0)) := by
  have : m = 0 ∨ m = 1 ∨ m = 2 ∨ m = 3 := by omega
  rcases this with rfl | rfl | rfl | rfl <;> rfl
theorem ino_at7 {k l s b0 b1 b2 b3 o0 o1 o2 o3 o4 o5 o6 o7 : Int} {m : Nat} (h : m < 8) : ([.int .i64 k, .int .i64 l, .int .i64 s, .int .i64 b0, .int .i64 b1, .int .i64 b2, .int .i64 b3, .int .i64 o0, .int .i64 o1, .int .i64 o2, .int .i64 o3, .int .i64 o4, .int .i64 o5, .int .i64 o6, .int .i64 o7] : List Value)[7 + m]? = some (.int .i64 ([o0, o1, o2, o3, o4, o5, o6, o7].getD m 0)) := by
  have : m = 0 ∨ m = 1 ∨ m = 2 ∨ m = 3 ∨ m = 4 ∨ m = 5 ∨ m = 6 ∨ m = 7 := by omega
  rcases this with rfl | rfl | rfl | rfl | rfl | rfl | rfl | rfl <;> rfl
theorem blkA_no1 {l : List Int} {i : Nat} {b : Int} (hb : b = l.getD i 0) (h : b < 0 ∨ 128 < b) : blkA l i = false := by
  rw [blkA, ← hb, decide_eq_false (by omega), Bool.false_and]
theorem blkA_no2 {l : List Int} {i j : Nat} (hj : j < i) (h : l.getD j 0 ≠ 0) (h2 : l.getD j 0 = l.getD i 0) : blkA l i = false := by
  rw [blkA, Bool.and_eq_false_iff]
  right
  rw [decide_eq_false_iff_not]
  exact fun e => e j hj ⟨h, h2⟩
theorem blkA_yes {l : List Int} {i : Nat} {b : Int} (hb : b = l.getD i 0) (h0 : 0 ≤ b) (h1 : b ≤ 128) (h : ∀ j, j < i → ¬ (l.getD j 0 ≠ 0 ∧ l.getD j 0 = b)) : blkA l i = true := by
  rw [blkA, ← hb, decide_eq_true (And.intro h0 h1), decide_eq_true h]; rfl
theorem opnA_iff {k : Int} {l : List Int} {i : Nat} {b : Int} (hb : b = l.getD i 0) : opnA k l i = true ↔ (0 ≤ b ∧ b ≤ 8) ∧ (k ≠ 1 → b = 0) := by
  rw [opnA, ← hb, Bool.and_eq_true, decide_eq_true_iff, decide_eq_true_iff]
theorem opnA_no {k : Int} {l : List Int} {i : Nat} {b : Int} (hb : b = l.getD i 0) (h : ¬ ((0 ≤ b ∧ b ≤ 8) ∧ (k ≠ 1 → b = 0))) : opnA k l i = false := by
  cases hx : opnA k l i with
  | false => rfl
  | true => exact absurd ((opnA_iff hb).1 hx) h

set_option maxHeartbeats 4000000 in
set_option maxRecDepth 100000 in
theorem ref11_may (k l s b0 b1 b2 b3 o0 o1 o2 o3 o4 o5 o6 o7 : Int) (w : World) : Calls Try.prog 12 #[.agg #[.int .i64 k, .int .i64 l, .int .i64 s, .int .i64 b0, .int .i64 b1, .int .i64 b2, .int .i64 b3, .int .i64 o0, .int .i64 o1, .int .i64 o2, .int .i64 o3, .int .i64 o4, .int .i64 o5, .int .i64 o6, .int .i64 o7]] w fun e w' => e = .returned (.bool (mayI k l s [b0, b1, b2, b3] [o0, o1, o2, o3, o4, o5, o6, o7])) ∧ Grow w w' := by
  obtain ⟨mm, hmm⟩ : ∃ mm, mm = mayI k l s [b0, b1, b2, b3] [o0, o1, o2, o3, o4, o5, o6, o7] := ⟨_, rfl⟩
  rw [← hmm]
  have HM := Lib.hid (hmm.trans (mayI_ref k l s [b0, b1, b2, b3] [o0, o1, o2, o3, o4, o5, o6, o7]))
  clear hmm
  have K0 := Blk.new w 25 [.int .i64 k, .int .i64 l, .int .i64 s, .int .i64 b0, .int .i64 b1, .int .i64 b2, .int .i64 b3, .int .i64 o0, .int .i64 o1, .int .i64 o2, .int .i64 o3, .int .i64 o4, .int .i64 o5, .int .i64 o6, .int .i64 o7] _ (0, 0) rfl
  go_enter Try.func12, Try.ntmps12
  go_wp2_with fail
  go_loopw [3, 4] (fun i _ wr => ∃ n : Nat, n ≤ 4 ∧ i = .int .i64 n ∧ Hid (allB (blkA [b0, b1, b2, b3]) n = true) ∧ Blk wr w.heap.size [.int .i64 k, .int .i64 l, .int .i64 s, .int .i64 b0, .int .i64 b1, .int .i64 b2, .int .i64 b3, .int .i64 o0, .int .i64 o1, .int .i64 o2, .int .i64 o3, .int .i64 o4, .int .i64 o5, .int .i64 o6, .int .i64 o7] ∧ Grow w wr) (fun i _ _ => 4 - (intOf i).toNat)
  case atStart => exact ⟨0, Nat.zero_le _, rfl, Lib.hid rfl, K0, (Grow.refl _).alloc _⟩
  case round =>
    obtain ⟨n, hn, rfl, hok, K, g⟩ := hrel
    by_cases hlt : n < 4
    · have cn := K.2 _ _ (ino_at3 hlt)
      obtain ⟨b, hb⟩ : ∃ b, b = [b0, b1, b2, b3].getD n 0 := ⟨_, rfl⟩
      rw [← hb] at cn
      have HB := Lib.hid hb
      clear hb
      by_cases hr0 : b < 0
      · have hno := Lib.hid (blkA_no1 HB.out (.inl hr0))
        go_wp2_with fail
        go_ret
        exact ⟨ret_bool (by rw [HM.out, allB_false hno.out hlt, Bool.false_and]), g⟩
      · have hr0' : 0 ≤ b := by omega
        by_cases hr1 : 128 < b
        · have hno := Lib.hid (blkA_no1 HB.out (.inr hr1))
          go_wp2_with fail
          go_ret
          exact ⟨ret_bool (by rw [HM.out, allB_false hno.out hlt, Bool.false_and]), g⟩
        · have hr1' : b ≤ 128 := by omega
          clear hr0 hr1
          go_wp2_with fail
          obtain ⟨wo, rfl⟩ : ∃ wo : World, wo = wr := ⟨_, rfl⟩
          go_loopw [4] (fun i wr => ∃ j : Nat, j ≤ n ∧ i = .int .i64 j ∧ Hid (∀ i, i < j → ¬ ([b0, b1, b2, b3].getD i 0 ≠ 0 ∧ [b0, b1, b2, b3].getD i 0 = b)) ∧ Blk wr w.heap.size [.int .i64 k, .int .i64 l, .int .i64 s, .int .i64 b0, .int .i64 b1, .int .i64 b2, .int .i64 b3, .int .i64 o0, .int .i64 o1, .int .i64 o2, .int .i64 o3, .int .i64 o4, .int .i64 o5, .int .i64 o6, .int .i64 o7] ∧ Grow w wr) (fun i _ => n - (intOf i).toNat)
          case atStart => exact ⟨0, Nat.zero_le _, rfl, Lib.hid (fun i hi => by omega), K, g⟩
          case round =>
            clear K g cn
            obtain ⟨j, hj, rfl, hall, K, g⟩ := hrel
            have cn := K.2 _ _ (ino_at3 hlt)
            rw [← HB.out] at cn
            by_cases hjl : j < n
            · have cj := K.2 _ _ (ino_at3 (show j < 4 by omega))
              obtain ⟨d, hd⟩ : ∃ d, d = [b0, b1, b2, b3].getD j 0 := ⟨_, rfl⟩
              rw [← hd] at cj
              have HD := Lib.hid hd
              clear hd
              by_cases hz : d = 0
              · have hz1 : (d != 0) = false := by rw [bne_eq_false_iff_eq]; exact hz
                have HZ := Lib.hid hz
                clear hz
                go_wp2_with fail
                go_quiet (fail)
                go_wp2_with fail
                go_roundw
                case rel => exact ⟨j + 1, by omega, by go_num, Lib.hid (fun i hi => by
                  by_cases e : i = j
                  · subst e
                    rw [← HD.out]
                    exact fun h => h.1 HZ.out
                  · exact hall.out i (by omega)), K.keep ((Grow.refl _).drewN _), g.drewN _⟩
                case measure => simp [intOf]; omega
              · have hz1 : (d != 0) = true := by rw [bne_iff_ne]; exact hz
                have HZ := Lib.hid hz
                clear hz
                by_cases he : d = b
                · have he1 : (d == b) = true := by rw [beq_iff_eq]; exact he
                  have hno := Lib.hid (blkA_no2 (l := [b0, b1, b2, b3]) hjl (by rw [← HD.out]; exact HZ.out) (by rw [← HD.out, ← HB.out]; exact he))
                  clear he
                  go_wp2_with fail
                  go_quiet (fail)
                  go_wp2_with fail
                  go_ret
                  exact ⟨ret_bool (by rw [HM.out, allB_false hno.out hlt, Bool.false_and]), g.drewN _⟩
                · have he1 : (d == b) = false := by rw [beq_eq_false_iff_ne]; exact he
                  have HE := Lib.hid he
                  clear he
                  go_wp2_with fail
                  go_quiet (fail)
                  go_wp2_with fail
                  go_roundw
                  case rel => exact ⟨j + 1, by omega, by go_num, Lib.hid (fun i hi => by
                    by_cases e : i = j
                    · subst e
                      rw [← HD.out]
                      exact fun h => HE.out h.2
                    · exact hall.out i (by omega)), K.keep ((Grow.refl _).drewN _), g.drewN _⟩
                  case measure => simp [intOf]; omega
            · obtain rfl : j = n := by omega
              go_wp2_with fail
              go_roundw
              case rel => exact ⟨j + 1, by omega, by go_num, Lib.hid (by rw [allB, hok.out, blkA_yes HB.out hr0' hr1' hall.out]; rfl), K, g⟩
              case measure => simp [intOf]; omega
    · obtain rfl : n = 4 := by omega
      clear K0
      by_cases hk : k = 1
      · have hk1 : (k != 1) = false := by rw [bne_eq_false_iff_eq]; exact hk
        have hk2 : (k == 1) = true := by rw [beq_iff_eq]; exact hk
        have HK := Lib.hid hk
        clear hk
        go_wp2_with fail
        go_loopw [5] (fun i wr => ∃ n : Nat, n ≤ 8 ∧ i = .int .i64 n ∧ Hid (allB (opnA k [o0, o1, o2, o3, o4, o5, o6, o7]) n = true) ∧ Blk wr w.heap.size [.int .i64 k, .int .i64 l, .int .i64 s, .int .i64 b0, .int .i64 b1, .int .i64 b2, .int .i64 b3, .int .i64 o0, .int .i64 o1, .int .i64 o2, .int .i64 o3, .int .i64 o4, .int .i64 o5, .int .i64 o6, .int .i64 o7] ∧ Grow w wr) (fun i _ => 8 - (intOf i).toNat)
        case atStart => exact ⟨0, Nat.zero_le _, rfl, Lib.hid rfl, K, g⟩
        case round =>
          clear K g
          obtain ⟨n, hn, rfl, hok3, K, g⟩ := hrel
          by_cases hlt : n < 8
          · have cn := K.2 _ _ (ino_at7 hlt)
            obtain ⟨b, hb⟩ : ∃ b, b = [o0, o1, o2, o3, o4, o5, o6, o7].getD n 0 := ⟨_, rfl⟩
            rw [← hb] at cn
            have HB := Lib.hid hb
            have c0 := K.2 0 _ rfl
            clear hb
            by_cases hr0 : b < 0
            · have hno := Lib.hid (opnA_no (k := k) HB.out (by omega))
              go_wp2_with fail
              go_ret
              exact ⟨ret_bool (by rw [HM.out, hok.out, allB_false hno.out hlt]; rfl), g⟩
            · have hr0' : 0 ≤ b := by omega
              by_cases hr1 : 8 < b
              · have hno := Lib.hid (opnA_no (k := k) HB.out (by omega))
                go_wp2_with fail
                go_ret
                exact ⟨ret_bool (by rw [HM.out, hok.out, allB_false hno.out hlt]; rfl), g⟩
              · have hr1' : b ≤ 8 := by omega
                clear hr0 hr1
                go_wp2_with fail
                go_roundw
                case rel => first | exact ⟨n + 1, by omega, by go_num, Lib.hid (by rw [allB, hok3.out, (opnA_iff HB.out).2 ⟨⟨hr0', hr1'⟩, fun h => absurd HK.out h⟩]; rfl), K, g⟩ | ((repeat apply Exists.intro); exact ⟨⟨n + 1, by omega, by go_num, Lib.hid (by rw [allB, hok3.out, (opnA_iff HB.out).2 ⟨⟨hr0', hr1'⟩, fun h => absurd HK.out h⟩]; rfl), K, g⟩, rfl⟩)
                case measure => simp [intOf]; omega
          · obtain rfl : n = 8 := by omega
            have HM2 := Lib.hid (show mm = lastI k l s [b0, b1, b2, b3] [o0, o1, o2, o3, o4, o5, o6, o7] by rw [HM.out, hok.out, hok3.out]; rfl)
            have c0 := K.2 0 _ rfl
            have c1 := K.2 1 _ rfl
            have c2 := K.2 2 _ rfl
            clear hok hok3 HM
            go_wp2_with fail
            clear c0 c1 c2
            go_loopw [6] (fun i wr => ∃ n : Nat, n ≤ 4 ∧ i = .int .i64 n ∧ Hid (allB (blkC s [b0, b1, b2, b3]) n = true) ∧ Blk wr w.heap.size [.int .i64 k, .int .i64 l, .int .i64 s, .int .i64 b0, .int .i64 b1, .int .i64 b2, .int .i64 b3, .int .i64 o0, .int .i64 o1, .int .i64 o2, .int .i64 o3, .int .i64 o4, .int .i64 o5, .int .i64 o6, .int .i64 o7] ∧ Grow w wr) (fun i _ => 4 - (intOf i).toNat)
            case atStart => exact ⟨0, Nat.zero_le _, rfl, Lib.hid rfl, K, g⟩
            case round =>
              clear K g
              obtain ⟨n, hn, rfl, hok4, K, g⟩ := hrel
              have c1 := K.2 1 _ rfl
              have c2 := K.2 2 _ rfl
              by_cases hlt : n < 4
              · have cn := K.2 _ _ (ino_at3 hlt)
                obtain ⟨b, hb⟩ : ∃ b, b = [b0, b1, b2, b3].getD n 0 := ⟨_, rfl⟩
                rw [← hb] at cn
                have HB := Lib.hid hb
                clear hb
                have hw1 : IntKind.i64.wrap (64 * (n : Int)) = 64 * (n : Int) := IntWalk.i64_in _ (by omega)
                obtain ⟨x, hx⟩ : ∃ x, x = (b != 0) := ⟨_, rfl⟩
                obtain ⟨y, hy⟩ : ∃ y, y = decide (64 * (n : Int) < s) := ⟨_, rfl⟩
                have HC := Lib.hid (show blkC s [b0, b1, b2, b3] n = !(x != y) by
                  rw [blkC, ← HB.out, hx, hy]
                  by_cases e1 : b = 0 <;> by_cases e2 : 64 * (n : Int) < s <;> simp [e1, e2])
                have hx1 := hx.symm
                have hy1 := hy.symm
                clear hx hy
                cases x <;> cases y
                all_goals
                  go_wp2_with fail
                  go_quiet (fail)
                  go_wp2_with fail
                  first
                  | (go_ret
                     exact ⟨ret_bool (by rw [HM2.out, lastI, if_pos HK.out, allB_false HC.out hlt, Bool.false_and]), g.drewN _⟩)
                  | (go_roundw
                     case rel => first | exact ⟨n + 1, by omega, by go_num, Lib.hid (by rw [allB, hok4.out, HC.out]; rfl), K.keep ((Grow.refl _).drewN _), g.drewN _⟩ | ((repeat apply Exists.intro); exact ⟨⟨n + 1, by omega, by go_num, Lib.hid (by rw [allB, hok4.out, HC.out]; rfl), K.keep ((Grow.refl _).drewN _), g.drewN _⟩, rfl⟩)
                     case measure => simp [intOf]; omega)
              · obtain rfl : n = 4 := by omega
                go_wp2
                all_goals
                  go_ret
                  refine ⟨ret_bool ?_, g⟩
                  rw [HM2.out, lastI, if_pos HK.out, hok4.out, Bool.true_and]
                all_goals (rw [Bool.eq_iff_iff]; simp only [decide_eq_true_iff, Bool.false_eq_true, false_iff])
                all_goals (first | omega | (simp_all; done) | (simp_all; omega))
      · have hk1 : (k != 1) = true := by rw [bne_iff_ne]; exact hk
        have hk2 : (k == 1) = false := by rw [beq_eq_false_iff_ne]; exact hk
        have HK := Lib.hid hk
        clear hk
        by_cases hkk : k = 2
        · have hk3 : (k == 2) = true := by rw [beq_iff_eq]; exact hkk
          have HK2 := Lib.hid hkk
          clear hkk
          go_wp2_with fail
          go_loopw [5] (fun i wr => ∃ n : Nat, n ≤ 8 ∧ i = .int .i64 n ∧ Hid (allB (opnA k [o0, o1, o2, o3, o4, o5, o6, o7]) n = true) ∧ Blk wr w.heap.size [.int .i64 k, .int .i64 l, .int .i64 s, .int .i64 b0, .int .i64 b1, .int .i64 b2, .int .i64 b3, .int .i64 o0, .int .i64 o1, .int .i64 o2, .int .i64 o3, .int .i64 o4, .int .i64 o5, .int .i64 o6, .int .i64 o7] ∧ Grow w wr) (fun i _ => 8 - (intOf i).toNat)
          case atStart => exact ⟨0, Nat.zero_le _, rfl, Lib.hid rfl, K, g⟩
          case round =>
            clear K g
            obtain ⟨n, hn, rfl, hok3, K, g⟩ := hrel
            by_cases hlt : n < 8
            · have cn := K.2 _ _ (ino_at7 hlt)
              obtain ⟨b, hb⟩ : ∃ b, b = [o0, o1, o2, o3, o4, o5, o6, o7].getD n 0 := ⟨_, rfl⟩
              rw [← hb] at cn
              have HB := Lib.hid hb
              have c0 := K.2 0 _ rfl
              clear hb
              by_cases hr0 : b < 0
              · have hno := Lib.hid (opnA_no (k := k) HB.out (by omega))
                go_wp2_with fail
                go_ret
                exact ⟨ret_bool (by rw [HM.out, hok.out, allB_false hno.out hlt]; rfl), g⟩
              · have hr0' : 0 ≤ b := by omega
                by_cases hr1 : 8 < b
                · have hno := Lib.hid (opnA_no (k := k) HB.out (by omega))
                  go_wp2_with fail
                  go_ret
                  exact ⟨ret_bool (by rw [HM.out, hok.out, allB_false hno.out hlt]; rfl), g⟩
                · have hr1' : b ≤ 8 := by omega
                  clear hr0 hr1
                  by_cases hz : b = 0
                  · have hz1 : (b != 0) = false := by rw [bne_eq_false_iff_eq]; exact hz
                    have HZ := Lib.hid hz
                    clear hz
                    go_wp2_with fail
                    go_roundw
                    case rel => first | exact ⟨n + 1, by omega, by go_num, Lib.hid (by rw [allB, hok3.out, (opnA_iff HB.out).2 ⟨⟨hr0', hr1'⟩, fun _ => HZ.out⟩]; rfl), K, g⟩ | ((repeat apply Exists.intro); exact ⟨⟨n + 1, by omega, by go_num, Lib.hid (by rw [allB, hok3.out, (opnA_iff HB.out).2 ⟨⟨hr0', hr1'⟩, fun _ => HZ.out⟩]; rfl), K, g⟩, rfl⟩)
                    case measure => simp [intOf]; omega
                  · have hz1 : (b != 0) = true := by rw [bne_iff_ne]; exact hz
                    have hno := Lib.hid (opnA_no (k := k) HB.out (fun h => hz (h.2 HK.out)))
                    clear hz
                    go_wp2_with fail
                    go_ret
                    exact ⟨ret_bool (by rw [HM.out, hok.out, allB_false hno.out hlt]; rfl), g⟩
            · obtain rfl : n = 8 := by omega
              have HM2 := Lib.hid (show mm = lastI k l s [b0, b1, b2, b3] [o0, o1, o2, o3, o4, o5, o6, o7] by rw [HM.out, hok.out, hok3.out]; rfl)
              have c0 := K.2 0 _ rfl
              have c1 := K.2 1 _ rfl
              have c2 := K.2 2 _ rfl
              clear hok hok3 HM
              go_wp2
              all_goals
                go_ret
                refine ⟨ret_bool ?_, g⟩
                rw [HM2.out, lastI, if_neg HK.out, if_pos HK2.out]
              all_goals (rw [Bool.eq_iff_iff]; simp only [decide_eq_true_iff, Bool.false_eq_true, false_iff])
              all_goals (first | omega | (simp_all; done) | (simp_all; omega))
        · have hk3 : (k == 2) = false := by rw [beq_eq_false_iff_ne]; exact hkk
          have HK2 := Lib.hid hkk
          clear hkk
          go_wp2_with fail
          go_loopw [5] (fun i wr => ∃ n : Nat, n ≤ 8 ∧ i = .int .i64 n ∧ Hid (allB (opnA k [o0, o1, o2, o3, o4, o5, o6, o7]) n = true) ∧ Blk wr w.heap.size [.int .i64 k, .int .i64 l, .int .i64 s, .int .i64 b0, .int .i64 b1, .int .i64 b2, .int .i64 b3, .int .i64 o0, .int .i64 o1, .int .i64 o2, .int .i64 o3, .int .i64 o4, .int .i64 o5, .int .i64 o6, .int .i64 o7] ∧ Grow w wr) (fun i _ => 8 - (intOf i).toNat)
          case atStart => exact ⟨0, Nat.zero_le _, rfl, Lib.hid rfl, K, g⟩
          case round =>
            clear K g
            obtain ⟨n, hn, rfl, hok3, K, g⟩ := hrel
            by_cases hlt : n < 8
            · have cn := K.2 _ _ (ino_at7 hlt)
              obtain ⟨b, hb⟩ : ∃ b, b = [o0, o1, o2, o3, o4, o5, o6, o7].getD n 0 := ⟨_, rfl⟩
              rw [← hb] at cn
              have HB := Lib.hid hb
              have c0 := K.2 0 _ rfl
              clear hb
              by_cases hr0 : b < 0
              · have hno := Lib.hid (opnA_no (k := k) HB.out (by omega))
                go_wp2_with fail
                go_ret
                exact ⟨ret_bool (by rw [HM.out, hok.out, allB_false hno.out hlt]; rfl), g⟩
              · have hr0' : 0 ≤ b := by omega
                by_cases hr1 : 8 < b
                · have hno := Lib.hid (opnA_no (k := k) HB.out (by omega))
                  go_wp2_with fail
                  go_ret
                  exact ⟨ret_bool (by rw [HM.out, hok.out, allB_false hno.out hlt]; rfl), g⟩
                · have hr1' : b ≤ 8 := by omega
                  clear hr0 hr1
                  by_cases hz : b = 0
                  · have hz1 : (b != 0) = false := by rw [bne_eq_false_iff_eq]; exact hz
                    have HZ := Lib.hid hz
                    clear hz
                    go_wp2_with fail
                    go_roundw
                    case rel => first | exact ⟨n + 1, by omega, by go_num, Lib.hid (by rw [allB, hok3.out, (opnA_iff HB.out).2 ⟨⟨hr0', hr1'⟩, fun _ => HZ.out⟩]; rfl), K, g⟩ | ((repeat apply Exists.intro); exact ⟨⟨n + 1, by omega, by go_num, Lib.hid (by rw [allB, hok3.out, (opnA_iff HB.out).2 ⟨⟨hr0', hr1'⟩, fun _ => HZ.out⟩]; rfl), K, g⟩, rfl⟩)
                    case measure => simp [intOf]; omega
                  · have hz1 : (b != 0) = true := by rw [bne_iff_ne]; exact hz
                    have hno := Lib.hid (opnA_no (k := k) HB.out (fun h => hz (h.2 HK.out)))
                    clear hz
                    go_wp2_with fail
                    go_ret
                    exact ⟨ret_bool (by rw [HM.out, hok.out, allB_false hno.out hlt]; rfl), g⟩
            · obtain rfl : n = 8 := by omega
              have HM2 := Lib.hid (show mm = lastI k l s [b0, b1, b2, b3] [o0, o1, o2, o3, o4, o5, o6, o7] by rw [HM.out, hok.out, hok3.out]; rfl)
              have c0 := K.2 0 _ rfl
              have c1 := K.2 1 _ rfl
              have c2 := K.2 2 _ rfl
              clear hok hok3 HM
              have z0 := K.2 0 _ rfl; have z1 := K.2 1 _ rfl; have z2 := K.2 2 _ rfl; have z3 := K.2 3 _ rfl; have z4 := K.2 4 _ rfl; have z5 := K.2 5 _ rfl; have z6 := K.2 6 _ rfl; have z7 := K.2 7 _ rfl; have z8 := K.2 8 _ rfl; have z9 := K.2 9 _ rfl; have z10 := K.2 10 _ rfl; have z11 := K.2 11 _ rfl; have z12 := K.2 12 _ rfl; have z13 := K.2 13 _ rfl; have z14 := K.2 14 _ rfl
              have q4 := eql4
              have q8 := eql8
              have HE := Lib.hid (show mm = (k == 0 && l == 0 && s == 0 && b0 == 0 && b1 == 0 && b2 == 0 && b3 == 0 && o0 == 0 && o1 == 0 && o2 == 0 && o3 == 0 && o4 == 0 && o5 == 0 && o6 == 0 && o7 == 0) by
                rw [HM2.out, lastI, if_neg HK.out, if_neg HK2.out, Bool.eq_iff_iff]
                simp [List.replicate, and_assoc])
              clear c0 c1 c2 HM2
              go_wp2
              all_goals (go_ret; refine ⟨ret_bool ?_, g⟩; rw [HE.out]; simp_all)
end Go.Proofs.Ytpmmkchjdhaieaa
