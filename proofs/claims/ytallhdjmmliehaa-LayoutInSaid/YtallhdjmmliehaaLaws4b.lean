/- The laws of layer 4, as walks: the whole. -/
import Derived.Test.YtallhdjmmliehaaLaws4
namespace Go.Proofs.Ytallhdjmmliehaa
open Go.RowKit Go.Shelf

set_option maxHeartbeats 300000 in
theorem law_LayoutWhole (k n : Int) (w : World) : Calls Try.prog 6 #[.int .i64 k, .int .i64 n] w fun e w' => e = .returned (.bool true) ∧ Below w.heap.size w w' := by
  cases hy : (upTo 7).find? (hitB k n) with
  | none =>
    have HY := Lib.hid hy
    clear hy
    go_enter Try.func6, Try.ntmps6
    go_wp2_with fail
    refine (find_none HY.out _).mono ?_
    rintro e w1 ⟨rfl, b1⟩
    go_wp2_with fail
    refine (lives4 _).mono ?_
    rintro e w2 ⟨rfl, b2⟩
    go_wp2_with fail
    go_ret
    exact ⟨rfl, below_tr (below_box b1 _) b2⟩
  | some x =>
    have hw := List.all_eq_true.1 whole_all x (List.mem_of_find?_eq_some hy)
    have hbd : 0 ≤ x.a ∧ x.a + x.s ≤ 100000 ∧ 0 ≤ x.s := by
      obtain ⟨j, hj, i, hi, rfl⟩ := mem_upTo.1 (List.mem_of_find?_eq_some hy)
      have := part_bounds hj hi
      omega
    have hkn := hitB_iff.1 (List.find?_some hy)
    obtain ⟨k', n', a, z⟩ := x
    obtain ⟨rfl, rfl⟩ := hkn
    simp only at hw hy hbd
    have w1 : wrap64 (a + z) = a + z := IntWalk.wrap64_in _ (by omega)
    have HY := Lib.hid hy
    clear hy hbd
    obtain ⟨E, hE⟩ : ∃ E, a + z = E := ⟨_, rfl⟩
    rw [hE] at hw
    replace w1 : wrap64 (a + z) = E := w1.trans hE
    cases ho : (upTo 7).find? (ofB E) with
    | none =>
      rw [ho] at hw
      have hE2 : E = 23168 := of_decide_eq_true hw
      have hE3 : (E == 23168) = true := by rw [beq_iff_eq]; exact hE2
      have HO := Lib.hid ho
      clear hw ho hE hE2
      go_enter Try.func6, Try.ntmps6
      go_wp2_with fail
      refine (find_some HY.out _).mono ?_
      rintro e w2 ⟨rfl, b2⟩
      obtain ⟨c1, c2, c3, c4⟩ := (PtAt.new w2 ⟨k', n', a, z⟩).cells
      simp only at c1 c2 c3 c4
      go_wp2_with fail
      rw [w1]
      refine (ofc_none HO.out _).mono ?_
      rintro e w3 ⟨rfl, b3⟩
      clear c1 c2 c3 c4 w1
      go_wp2_with fail
      refine (size_w _).mono ?_
      rintro e w4 ⟨rfl, b4⟩
      go_wp2_with fail
      refine (lives4 _).mono ?_
      rintro e w5 ⟨rfl, b5⟩
      go_wp2_with fail
      go_ret
      exact ⟨rfl, below_tr (below_tr (below_box (below_tr (below_box b2 _) b3) _) b4) b5⟩
    | some y =>
      rw [ho] at hw
      simp only [Bool.and_eq_true, decide_eq_true_eq, Bool.not_eq_true', decide_eq_false_iff_not] at hw
      obtain ⟨yk, yn, ya, yz⟩ := y
      obtain ⟨⟨h1, h2⟩, h3⟩ := hw
      simp only at h2
      subst h2
      have hE3 : (ya == 23168) = false := by rw [beq_eq_false_iff_ne]; exact h1
      have hne : ¬(yk = k' ∧ yn = n' ∧ ya = a ∧ yz = z) := by simpa [Pt.mk.injEq] using h3
      have HNE := Lib.hid hne
      have HO := Lib.hid ho
      clear ho hE h1 h3 hne
      go_enter Try.func6, Try.ntmps6
      go_wp2_with fail
      refine (find_some HY.out _).mono ?_
      rintro e w2 ⟨rfl, b2⟩
      have p1 := PtAt.new w2 ⟨k', n', a, z⟩
      obtain ⟨c1, c2, c3, c4⟩ := p1.cells
      simp only at c1 c2 c3 c4
      go_wp2_with fail
      rw [w1]
      refine (ofc_some HO.out _).mono ?_
      rintro e w3 ⟨rfl, b3⟩
      clear c1 c2 c3 c4 w1
      replace p1 := (p1.below b3 (by simp)).alloc (.cells #[.int .i64 yk, .int .i64 yn, .int .i64 ya, .int .i64 yz] 23)
      have p2 := PtAt.new w3 ⟨yk, yn, ya, yz⟩
      go_wp2_with fail
      refine (size_w _).mono ?_
      rintro e w4 ⟨rfl, b4⟩
      obtain ⟨c1, c2, c3, c4⟩ := (p1.below b4 p1.lt).cells
      obtain ⟨d1, d2, d3, d4⟩ := (p2.below b4 p2.lt).cells
      simp only at c1 c2 c3 c4 d1 d2 d3 d4
      clear p1 p2
      go_wp2_with fail
      all_goals first
        | (exfalso; exact HNE.out ⟨by assumption, by assumption, by assumption, by assumption⟩)
        | (refine (lives4 _).mono ?_
           rintro e w5 ⟨rfl, b5⟩
           go_wp2_with fail
           go_ret
           exact ⟨rfl, below_tr (below_tr (below_box (below_tr (below_box b2 _) b3) _) b4) b5⟩)

theorem inm (k n a z q m : Int) (b : Bool) (h : inW a z q m = b) (w : World) : Calls Try.prog 12 #[.agg #[.int .i64 k, .int .i64 n, .int .i64 a, .int .i64 z], .int .i64 q, .int .i64 m] w fun e w' => e = .returned (.bool b) ∧ Below w.heap.size w w' := by
  subst h
  refine (in_w ⟨k, n, a, z⟩ q m w).mono ?_
  rintro e w' ⟨rfl, o, rfl⟩
  exact ⟨rfl, (Below.refl _ w).alloc (Nat.le_refl _) o⟩

/-- Too far out: a number behind a name. -/
def big : Int := 1099511627776
theorem in_want {a z q m : Int} (h1 : -big ≤ a ∧ a ≤ big) (h2 : -big ≤ z ∧ z ≤ big) (h3 : -big ≤ q ∧ q ≤ big) (h4 : -big ≤ m ∧ m ≤ big) :
    inW a z q m = (decide (0 ≤ m) && (decide (a ≤ q) && decide (q + m ≤ a + z))) ∧ wrap64 (q + m) = q + m ∧ wrap64 (a + z) = a + z := by
  unfold big at *
  refine ⟨?_, IntWalk.wrap64_in _ (by omega), IntWalk.wrap64_in _ (by omega)⟩
  rw [inW, IntWalk.wrap64_in (q - a) (by omega), IntWalk.wrap64_in (z - m) (by omega)]
  rw [Bool.eq_iff_iff]
  simp only [Bool.and_eq_true, decide_eq_true_eq]
  omega

set_option maxHeartbeats 1000000 in
theorem law_LayoutIn (k n a z q m : Int) (w : World) : Calls Try.prog 5 #[.agg #[.int .i64 k, .int .i64 n, .int .i64 a, .int .i64 z], .int .i64 q, .int .i64 m] w fun e w' => e = .returned (.bool true) ∧ Below w.heap.size w w' := by
  obtain ⟨c1, c2, c3, c4⟩ := (PtAt.new w ⟨k, n, a, z⟩).cells
  simp only at c1 c2 c3 c4
  have bA : Below w.heap.size w (w.alloc (.cells #[.int .i64 k, .int .i64 n, .int .i64 a, .int .i64 z] 23)) := below_box (Below.refl _ w) _
  by_cases h : (-big ≤ a ∧ a ≤ big) ∧ (-big ≤ z ∧ z ≤ big) ∧ (-big ≤ q ∧ q ≤ big) ∧ (-big ≤ m ∧ m ≤ big)
  · obtain ⟨h1, h2, h3, h4⟩ := h
    obtain ⟨e1, e2, e3⟩ := in_want h1 h2 h3 h4
    have HE := Lib.hid e1
    have u1 : decide (a < -1099511627776) = false := decide_eq_false (by have := h1.1; unfold big at this; omega)
    have u2 : decide (1099511627776 < a) = false := decide_eq_false (by have := h1.2; unfold big at this; omega)
    have u3 : decide (z < -1099511627776) = false := decide_eq_false (by have := h2.1; unfold big at this; omega)
    have u4 : decide (1099511627776 < z) = false := decide_eq_false (by have := h2.2; unfold big at this; omega)
    have u5 : decide (q < -1099511627776) = false := decide_eq_false (by have := h3.1; unfold big at this; omega)
    have u6 : decide (1099511627776 < q) = false := decide_eq_false (by have := h3.2; unfold big at this; omega)
    have u7 : decide (1099511627776 < m) = false := decide_eq_false (by have := h4.2; unfold big at this; omega)
    have u8 : decide (m < -1099511627776) = false := decide_eq_false (by have := h4.1; unfold big at this; omega)
    clear h1 h2 h3 h4 e1
    go_enter Try.func5, Try.ntmps5
    go_wp2_with fail
    · have x1 : 0 ≤ m := by assumption
      have x2 : a ≤ q := by assumption
      by_cases hle : q + m ≤ a + z
      · have hb : inW a z q m = true := by rw [HE.out, decide_eq_true x1, decide_eq_true x2, decide_eq_true hle]; rfl
        try rw [e2, e3]
        refine (inm k n a z q m true hb _).mono ?_
        rintro e w2 ⟨rfl, b2⟩
        clear c1 c2 c3 c4
        go_wp2_with fail
        refine (lives4 _).mono ?_
        rintro e w3 ⟨rfl, b3⟩
        go_wp2_with fail
        go_ret
        exact ⟨rfl, below_tr (below_tr bA b2) b3⟩
      · have hb : inW a z q m = false := by rw [HE.out, decide_eq_true x1, decide_eq_true x2, decide_eq_false hle]; rfl
        try rw [e2, e3]
        refine (inm k n a z q m false hb _).mono ?_
        rintro e w2 ⟨rfl, b2⟩
        clear c1 c2 c3 c4
        go_wp2_with fail
        refine (lives4 _).mono ?_
        rintro e w3 ⟨rfl, b3⟩
        go_wp2_with fail
        go_ret
        exact ⟨by simp only [decide_eq_false (show ¬ q + m ≤ a + z by omega)]; rfl, below_tr (below_tr bA b2) b3⟩
    · have hb : inW a z q m = false := by rw [HE.out, decide_eq_false (show ¬ a ≤ q by omega)]; simp
      refine (inm k n a z q m false hb _).mono ?_
      rintro e w2 ⟨rfl, b2⟩
      clear c1 c2 c3 c4
      go_wp2_with fail
      refine (lives4 _).mono ?_
      rintro e w3 ⟨rfl, b3⟩
      go_wp2_with fail
      go_ret
      exact ⟨rfl, below_tr (below_tr bA b2) b3⟩
    · have hb : inW a z q m = false := by rw [HE.out, decide_eq_false (show ¬ 0 ≤ m by omega)]; simp
      refine (inm k n a z q m false hb _).mono ?_
      rintro e w2 ⟨rfl, b2⟩
      clear c1 c2 c3 c4
      go_wp2_with fail
      refine (lives4 _).mono ?_
      rintro e w3 ⟨rfl, b3⟩
      go_wp2_with fail
      go_ret
      exact ⟨rfl, below_tr (below_tr bA b2) b3⟩
  · have H := Lib.hid h
    clear h
    go_enter Try.func5, Try.ntmps5
    go_wp2_with fail
    all_goals first
      | (refine (lives4 _).mono ?_
         rintro e w3 ⟨rfl, b3⟩
         go_wp2_with fail
         go_ret
         exact ⟨rfl, below_tr bA b3⟩)
      | (exfalso; refine H.out ⟨?_, ?_, ?_, ?_⟩ <;> unfold big <;> constructor <;> omega)
end Go.Proofs.Ytallhdjmmliehaa
