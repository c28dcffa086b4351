/- inode.May. -/
import Derived.Test.YtpmmkchjdhaieaaInoBlk
import Derived.Test.YtpmmkchjdhaieaaInoEq
namespace Go.Proofs.Ytpmmkchjdhaieaa
open Go.RowKit

theorem mayI_zero {l s b0 b1 b2 b3 o0 o1 o2 o3 o4 o5 o6 o7 : Int} : mayI 0 l s [b0, b1, b2, b3] [o0, o1, o2, o3, o4, o5, o6, o7] = (l == 0 && s == 0 && b0 == 0 && b1 == 0 && b2 == 0 && b3 == 0 && o0 == 0 && o1 == 0 && o2 == 0 && o3 == 0 && o4 == 0 && o5 == 0 && o6 == 0 && o7 == 0) := by
  rw [Bool.eq_iff_iff]
  simp [mayI, List.replicate, and_assoc]

set_option maxHeartbeats 1000000 in
theorem inode_may (k l s b0 b1 b2 b3 o0 o1 o2 o3 o4 o5 o6 o7 : Int) (w : World) : Calls Try.prog 11 #[.agg #[.int .i64 k, .int .i64 l, .int .i64 s, .int .i64 b0, .int .i64 b1, .int .i64 b2, .int .i64 b3, .int .i64 o0, .int .i64 o1, .int .i64 o2, .int .i64 o3, .int .i64 o4, .int .i64 o5, .int .i64 o6, .int .i64 o7]] w fun e w' => e = .returned (.bool (mayI k l s [b0, b1, b2, b3] [o0, o1, o2, o3, o4, o5, o6, o7])) ∧ Grow w w' := by
  by_cases h0 : k = 0
  · subst h0
    have q4 := eql4
    have q8 := eql8
    go_enter Try.func11, Try.ntmps11
    go_wp2
    all_goals (go_ret; refine ⟨ret_bool ?_, (Grow.refl _).alloc _⟩; rw [mayI_zero]; simp_all)
  · have hk0 : (k == 0) = false := by rw [beq_eq_false_iff_ne]; exact h0
    by_cases h1 : k = 1
    · subst h1
      obtain ⟨u, hu⟩ : ∃ u, u = opnsOK 8 [o0, o1, o2, o3, o4, o5, o6, o7] 8 := ⟨_, rfl⟩
      obtain ⟨v, hv⟩ : ∃ v, v = blksOK 1 s [b0, b1, b2, b3] 4 := ⟨_, rfl⟩
      have HM := Lib.hid (show mayI 1 l s [b0, b1, b2, b3] [o0, o1, o2, o3, o4, o5, o6, o7] = (decide (0 ≤ l ∧ l ≤ 20) && decide (0 ≤ s ∧ s ≤ 256) && u && v) by rw [hu, hv]; rfl)
      have HU := Lib.hid hu
      have HV := Lib.hid hv
      obtain ⟨x, hx⟩ : ∃ x, x = decide (0 ≤ l ∧ l ≤ 20) := ⟨_, rfl⟩
      obtain ⟨y, hy⟩ : ∃ y, y = decide (0 ≤ s ∧ s ≤ 256) := ⟨_, rfl⟩
      have HX := Lib.hid hx
      have HY := Lib.hid hy
      clear hu hv h0 hk0 hx hy
      rw [HM.out, ← HX.out, ← HY.out]
      clear HM
      go_enter Try.func11, Try.ntmps11
      go_wp2_with fail
      refine (inode_in _ _ _).mono ?_
      rintro e w1 ⟨rfl, rfl⟩
      rw [← HX.out]
      cases x with
      | false => go_wp2_with fail; go_ret; exact ⟨rfl, (Grow.refl _).alloc _⟩
      | true =>
        go_wp2_with fail
        refine (inode_in _ _ _).mono ?_
        rintro e w1 ⟨rfl, rfl⟩
        rw [← HY.out]
        cases y with
        | false => go_wp2_with fail; go_ret; exact ⟨rfl, (Grow.refl _).alloc _⟩
        | true =>
          go_wp2_with fail
          refine (inode_opens 1 l s b0 b1 b2 b3 o0 o1 o2 o3 o4 o5 o6 o7 8 _).mono ?_
          rintro e w1 ⟨rfl, g1⟩
          rw [← HU.out]
          have K1 := (Blk.new w 25 [.int .i64 1, .int .i64 l, .int .i64 s, .int .i64 b0, .int .i64 b1, .int .i64 b2, .int .i64 b3, .int .i64 o0, .int .i64 o1, .int .i64 o2, .int .i64 o3, .int .i64 o4, .int .i64 o5, .int .i64 o6, .int .i64 o7] _ (0, 0) rfl).keep g1
          replace g1 := ((Grow.refl _).alloc _).trans g1
          cases u with
          | false => go_wp2_with fail; go_ret; exact ⟨rfl, g1⟩
          | true =>
            have z0 := K1.2 0 _ rfl; have z1 := K1.2 1 _ rfl; have z2 := K1.2 2 _ rfl; have z3 := K1.2 3 _ rfl; have z4 := K1.2 4 _ rfl; have z5 := K1.2 5 _ rfl; have z6 := K1.2 6 _ rfl; have z7 := K1.2 7 _ rfl; have z8 := K1.2 8 _ rfl; have z9 := K1.2 9 _ rfl; have z10 := K1.2 10 _ rfl; have z11 := K1.2 11 _ rfl; have z12 := K1.2 12 _ rfl; have z13 := K1.2 13 _ rfl; have z14 := K1.2 14 _ rfl
            go_wp2_with fail
            refine (inode_blocks 1 l s b0 b1 b2 b3 o0 o1 o2 o3 o4 o5 o6 o7 _).mono ?_
            rintro e w2 ⟨rfl, g2⟩
            rw [← HV.out]
            clear z0 z1 z2 z3 z4 z5 z6 z7 z8 z9 z10 z11 z12 z13 z14
            cases v <;> (go_wp2_with fail; go_ret; exact ⟨rfl, g1.trans g2⟩)
    · have hk1 : (k == 1) = false := by rw [beq_eq_false_iff_ne]; exact h1
      by_cases h2 : k = 2
      · subst h2
        obtain ⟨u, hu⟩ : ∃ u, u = opnsOK 0 [o0, o1, o2, o3, o4, o5, o6, o7] 8 := ⟨_, rfl⟩
        obtain ⟨v, hv⟩ : ∃ v, v = blksOK 2 s [b0, b1, b2, b3] 4 := ⟨_, rfl⟩
        have HM := Lib.hid (show mayI 2 l s [b0, b1, b2, b3] [o0, o1, o2, o3, o4, o5, o6, o7] = (decide (l = 1) && decide (0 ≤ s ∧ s ≤ 16) && u && v) by rw [hu, hv]; rfl)
        have HU := Lib.hid hu
        have HV := Lib.hid hv
        obtain ⟨x, hx⟩ : ∃ x, x = decide (l = 1) := ⟨_, rfl⟩
        obtain ⟨y, hy⟩ : ∃ y, y = decide (0 ≤ s ∧ s ≤ 16) := ⟨_, rfl⟩
        have HX := Lib.hid hx
        have HY := Lib.hid hy
        have hl : (l == 1) = x := by rw [hx, Bool.eq_iff_iff]; simp
        have HL := Lib.hid hl
        clear hu hv h0 hk0 hk1 h1 hx hy hl
        rw [HM.out, ← HX.out, ← HY.out]
        clear HM
        cases x with
        | false =>
          have hl := HL.out
          go_enter Try.func11, Try.ntmps11
          go_wp2_with fail; go_ret; exact ⟨rfl, (Grow.refl _).alloc _⟩
        | true =>
          have hl := HL.out
          go_enter Try.func11, Try.ntmps11
          go_wp2_with fail
          refine (inode_in _ _ _).mono ?_
          rintro e w1 ⟨rfl, rfl⟩
          rw [← HY.out]
          cases y with
          | false => go_wp2_with fail; go_ret; exact ⟨rfl, (Grow.refl _).alloc _⟩
          | true =>
            go_wp2_with fail
            refine (inode_opens 2 l s b0 b1 b2 b3 o0 o1 o2 o3 o4 o5 o6 o7 0 _).mono ?_
            rintro e w1 ⟨rfl, g1⟩
            rw [← HU.out]
            have K1 := (Blk.new w 25 [.int .i64 2, .int .i64 l, .int .i64 s, .int .i64 b0, .int .i64 b1, .int .i64 b2, .int .i64 b3, .int .i64 o0, .int .i64 o1, .int .i64 o2, .int .i64 o3, .int .i64 o4, .int .i64 o5, .int .i64 o6, .int .i64 o7] _ (0, 0) rfl).keep g1
            replace g1 := ((Grow.refl _).alloc _).trans g1
            cases u with
            | false => go_wp2_with fail; go_ret; exact ⟨rfl, g1⟩
            | true =>
              have z0 := K1.2 0 _ rfl; have z1 := K1.2 1 _ rfl; have z2 := K1.2 2 _ rfl; have z3 := K1.2 3 _ rfl; have z4 := K1.2 4 _ rfl; have z5 := K1.2 5 _ rfl; have z6 := K1.2 6 _ rfl; have z7 := K1.2 7 _ rfl; have z8 := K1.2 8 _ rfl; have z9 := K1.2 9 _ rfl; have z10 := K1.2 10 _ rfl; have z11 := K1.2 11 _ rfl; have z12 := K1.2 12 _ rfl; have z13 := K1.2 13 _ rfl; have z14 := K1.2 14 _ rfl
              go_wp2_with fail
              refine (inode_blocks 2 l s b0 b1 b2 b3 o0 o1 o2 o3 o4 o5 o6 o7 _).mono ?_
              rintro e w2 ⟨rfl, g2⟩
              rw [← HV.out]
              clear z0 z1 z2 z3 z4 z5 z6 z7 z8 z9 z10 z11 z12 z13 z14
              cases v <;> (go_wp2_with fail; go_ret; exact ⟨rfl, g1.trans g2⟩)
      · have hk2 : (k == 2) = false := by rw [beq_eq_false_iff_ne]; exact h2
        have HM := Lib.hid (show mayI k l s [b0, b1, b2, b3] [o0, o1, o2, o3, o4, o5, o6, o7] = false by rw [mayI, if_neg h0, if_neg h1, if_neg h2])
        clear h0 h1 h2
        go_enter Try.func11, Try.ntmps11
        go_wp2
        go_ret
        exact ⟨ret_bool HM.out.symm, (Grow.refl _).alloc _⟩
end Go.Proofs.Ytpmmkchjdhaieaa
