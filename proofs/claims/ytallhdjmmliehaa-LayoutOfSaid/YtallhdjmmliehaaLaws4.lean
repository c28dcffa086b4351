/- The laws of layer 4, as walks. -/
import Derived.Test.YtallhdjmmliehaaLayPure
namespace Go.Proofs.Ytallhdjmmliehaa
open Go.RowKit Go.Shelf

theorem PtAt.below {A B : World} {n b : Nat} {x : Pt} (h : PtAt A b x) (hb : Below n A B) (hlt : b < n) : PtAt B b x := (hb.block b hlt).trans h
theorem find_some {k n a z : Int} (h : (upTo 7).find? (hitB k n) = some ⟨k, n, a, z⟩) (w : World) : Calls Try.prog 7 #[.int .i64 k, .int .i64 n] w fun e w' => e = .returned (.tuple #[.agg #[.int .i64 k, .int .i64 n, .int .i64 a, .int .i64 z], .bool true]) ∧ Below w.heap.size w w' := by
  refine (find_w k n w).mono ?_
  rintro e w' ⟨rfl, hb⟩
  rw [h]
  exact ⟨rfl, hb⟩
theorem find_none {k n : Int} (h : (upTo 7).find? (hitB k n) = none) (w : World) : Calls Try.prog 7 #[.int .i64 k, .int .i64 n] w fun e w' => e = .returned (.tuple #[.agg #[.int .i64 0, .int .i64 0, .int .i64 0, .int .i64 0], .bool false]) ∧ Below w.heap.size w w' := by
  refine (find_w k n w).mono ?_
  rintro e w' ⟨rfl, hb⟩
  rw [h]
  exact ⟨rfl, hb⟩
theorem ofc_some {q k n a z : Int} (h : (upTo 7).find? (ofB q) = some ⟨k, n, a, z⟩) (w : World) : Calls Try.prog 10 #[.int .i64 q] w fun e w' => e = .returned (.tuple #[.agg #[.int .i64 k, .int .i64 n, .int .i64 a, .int .i64 z], .bool true]) ∧ Below w.heap.size w w' := by
  refine (of_w q w).mono ?_
  rintro e w' ⟨rfl, hb⟩
  rw [h]
  exact ⟨rfl, hb⟩
theorem ofc_none {q : Int} (h : (upTo 7).find? (ofB q) = none) (w : World) : Calls Try.prog 10 #[.int .i64 q] w fun e w' => e = .returned (.tuple #[.agg #[.int .i64 0, .int .i64 0, .int .i64 0, .int .i64 0], .bool false]) ∧ Below w.heap.size w w' := by
  refine (of_w q w).mono ?_
  rintro e w' ⟨rfl, hb⟩
  rw [h]
  exact ⟨rfl, hb⟩

theorem v21 : (upTo 7).find? (hitB 2 1) = some ⟨2, 1, 64, 64⟩ := by kernel_rfl
theorem v41 : (upTo 7).find? (hitB 4 1) = some ⟨4, 1, 640, 64⟩ := by kernel_rfl
theorem v50 : (upTo 7).find? (hitB 5 0) = some ⟨5, 0, 2688, 4096⟩ := by kernel_rfl
theorem v62 : (upTo 7).find? (hitB 6 2) = some ⟨6, 2, 7808, 1024⟩ := by kernel_rfl
theorem v7 : (upTo 7).find? (hitB 7 128) = some ⟨7, 128, 23104, 64⟩ := by kernel_rfl
theorem vo : (upTo 7).find? (ofB 23168) = none := by kernel_rfl

theorem below_box {w w1 : World} (h : Below w.heap.size w w1) (o : Obj) : Below w.heap.size w (w1.alloc o) := h.alloc h.size o
theorem below_tr {w w1 w2 : World} (h : Below w.heap.size w w1) (k : Below w1.heap.size w1 w2) : Below w.heap.size w w2 := h.trans (k.mono h.size)

set_option maxHeartbeats 2000000 in
theorem lives4 (w : World) : Calls Try.prog 9 #[] w fun e w' => e = .returned (.bool true) ∧ Below w.heap.size w w' := by
  go_enter Try.func9, Try.ntmps9
  go_wp2_with fail
  refine (find_some v21 _).mono ?_
  rintro e w1 ⟨rfl, b1⟩
  have p1 := PtAt.new w1 ⟨2, 1, 64, 64⟩
  go_wp2_with fail
  refine (find_some v41 _).mono ?_
  rintro e w2 ⟨rfl, b2⟩
  replace p1 := p1.below b2 (by simp)
  replace b2 := below_tr (below_box b1 _) b2
  clear b1
  have p2 := PtAt.new w2 ⟨4, 1, 640, 64⟩
  replace p1 := p1.alloc (.cells #[.int .i64 4, .int .i64 1, .int .i64 640, .int .i64 64] 23)
  go_wp2_with fail
  refine (find_some v50 _).mono ?_
  rintro e w3 ⟨rfl, b3⟩
  replace p1 := p1.below b3 (p1.lt)
  replace p2 := p2.below b3 (by simp)
  replace b3 := below_tr (below_box b2 _) b3
  clear b2
  have p3 := PtAt.new w3 ⟨5, 0, 2688, 4096⟩
  replace p1 := p1.alloc (.cells #[.int .i64 5, .int .i64 0, .int .i64 2688, .int .i64 4096] 23)
  replace p2 := p2.alloc (.cells #[.int .i64 5, .int .i64 0, .int .i64 2688, .int .i64 4096] 23)
  go_wp2_with fail
  refine (find_some v62 _).mono ?_
  rintro e w4 ⟨rfl, b4⟩
  replace p1 := p1.below b4 (p1.lt)
  replace p2 := p2.below b4 (p2.lt)
  replace p3 := p3.below b4 (by simp)
  replace b4 := below_tr (below_box b3 _) b4
  clear b3
  have p4 := PtAt.new w4 ⟨6, 2, 7808, 1024⟩
  replace p1 := p1.alloc (.cells #[.int .i64 6, .int .i64 2, .int .i64 7808, .int .i64 1024] 23)
  replace p2 := p2.alloc (.cells #[.int .i64 6, .int .i64 2, .int .i64 7808, .int .i64 1024] 23)
  replace p3 := p3.alloc (.cells #[.int .i64 6, .int .i64 2, .int .i64 7808, .int .i64 1024] 23)
  go_wp2_with fail
  refine (find_some v7 _).mono ?_
  rintro e w5 ⟨rfl, b5⟩
  replace p1 := p1.below b5 (p1.lt)
  replace p2 := p2.below b5 (p2.lt)
  replace p3 := p3.below b5 (p3.lt)
  replace p4 := p4.below b5 (by simp)
  replace b5 := below_tr (below_box b4 _) b5
  clear b4
  have p5 := PtAt.new w5 ⟨7, 128, 23104, 64⟩
  replace p1 := p1.alloc (.cells #[.int .i64 7, .int .i64 128, .int .i64 23104, .int .i64 64] 23)
  replace p2 := p2.alloc (.cells #[.int .i64 7, .int .i64 128, .int .i64 23104, .int .i64 64] 23)
  replace p3 := p3.alloc (.cells #[.int .i64 7, .int .i64 128, .int .i64 23104, .int .i64 64] 23)
  replace p4 := p4.alloc (.cells #[.int .i64 7, .int .i64 128, .int .i64 23104, .int .i64 64] 23)
  go_wp2_with fail
  refine (ofc_none vo _).mono ?_
  rintro e w6 ⟨rfl, b6⟩
  replace p1 := p1.below b6 (p1.lt)
  replace p2 := p2.below b6 (p2.lt)
  replace p3 := p3.below b6 (p3.lt)
  replace p4 := p4.below b6 (p4.lt)
  replace p5 := p5.below b6 (by simp)
  replace b6 := below_tr (below_box b5 _) b6
  clear b5
  have c1 := (p1.alloc (.cells #[.int .i64 0, .int .i64 0, .int .i64 0, .int .i64 0] 23)).cells.2.2.1
  have c2 := (p2.alloc (.cells #[.int .i64 0, .int .i64 0, .int .i64 0, .int .i64 0] 23)).cells.2.2.1
  have c3 := (p3.alloc (.cells #[.int .i64 0, .int .i64 0, .int .i64 0, .int .i64 0] 23)).cells.2.2.1
  have c4 := (p4.alloc (.cells #[.int .i64 0, .int .i64 0, .int .i64 0, .int .i64 0] 23)).cells.2.2.1
  have c5 := (p5.alloc (.cells #[.int .i64 0, .int .i64 0, .int .i64 0, .int .i64 0] 23)).cells.2.2.1
  simp only at c1 c2 c3 c4 c5
  clear p1 p2 p3 p4 p5
  go_wp2_with fail
  refine (size_w _).mono ?_
  rintro e w7 ⟨rfl, b7⟩
  go_wp2_with fail
  go_ret
  exact ⟨rfl, below_tr (below_box b6 _) b7⟩

set_option maxHeartbeats 2000000 in
theorem law_LayoutFinds (k n : Int) (w : World) : Calls Try.prog 3 #[.int .i64 k, .int .i64 n] w fun e w' => e = .returned (.bool true) ∧ Below w.heap.size w w' := by
  by_cases h : noneB k n
  · have H := Lib.hid h
    have HF := Lib.hid (hit_no h)
    clear h
    go_enter Try.func3, Try.ntmps3
    go_wp2_with fail
    refine (find_none HF.out _).mono ?_
    rintro e w1 ⟨rfl, b1⟩
    go_wp2_with fail
    refine (rfind_no k n H.out _).mono ?_
    rintro e w2 ⟨rfl, rfl⟩
    obtain ⟨c1, c2, c3, c4⟩ := (PtAt.new w1 zeroPt).cells
    simp only [zeroPt] at c1 c2 c3 c4
    go_wp2_with fail
    refine (lives4 _).mono ?_
    rintro e w3 ⟨rfl, b3⟩
    go_wp2_with fail
    go_ret
    exact ⟨rfl, below_tr (below_box b1 _) b3⟩
  · have H := Lib.hid h
    have HF := hit_yes h
    obtain ⟨a, ha⟩ : ∃ a, (if numB k then stP k + (n - 1) * stS k else stP k) = a := ⟨_, rfl⟩
    obtain ⟨z, hz⟩ : ∃ z, stS k = z := ⟨_, rfl⟩
    rw [ha, hz] at HF
    replace HF := Lib.hid HF
    have HR : Hid (∀ w, Calls Try.prog 8 #[.int .i64 k, .int .i64 n] w fun e w' => e = .returned (.tuple #[.int .i64 a, .int .i64 z, .bool true]) ∧ w = w') := Lib.hid (fun w => by have := rfind_yes k n H.out w; rw [ha, hz] at this; exact this)
    clear h ha hz
    go_enter Try.func3, Try.ntmps3
    go_wp2_with fail
    refine (find_some HF.out _).mono ?_
    rintro e w1 ⟨rfl, b1⟩
    go_wp2_with fail
    refine (HR.out _).mono ?_
    rintro e w2 ⟨rfl, rfl⟩
    obtain ⟨c1, c2, c3, c4⟩ := (PtAt.new w1 ⟨k, n, a, z⟩).cells
    simp only at c1 c2 c3 c4
    go_wp2_with fail
    refine (lives4 _).mono ?_
    rintro e w3 ⟨rfl, b3⟩
    go_wp2_with fail
    go_ret
    exact ⟨rfl, below_tr (below_box b1 _) b3⟩

theorem inc (k n a z q : Int) (b : Bool) (h : inW a z q 1 = b) (w : World) : Calls Try.prog 12 #[.agg #[.int .i64 k, .int .i64 n, .int .i64 a, .int .i64 z], .int .i64 q, .int .i64 1] w fun e w' => e = .returned (.bool b) ∧ Below w.heap.size w w' := by
  subst h
  refine (in_w ⟨k, n, a, z⟩ q 1 w).mono ?_
  rintro e w' ⟨rfl, o, rfl⟩
  exact ⟨rfl, (Below.refl _ w).alloc (Nat.le_refl _) o⟩
theorem rof_c (q : Int) (hq : -9223372036854775808 ≤ q ∧ q ≤ 9223372036854775807) (k n : Int) (h : rofV q = (k, n)) (w : World) : Calls Try.prog 11 #[.int .i64 q] w fun e w' => e = .returned (.tuple #[.int .i64 k, .int .i64 n]) ∧ w = w' := by
  have := rof_w q hq w
  rw [h] at this
  exact this

set_option maxHeartbeats 2000000 in
theorem law_LayoutOf (q k n : Int) (hq : -9223372036854775808 ≤ q ∧ q ≤ 9223372036854775807) (w : World) : Calls Try.prog 4 #[.int .i64 q, .int .i64 k, .int .i64 n] w fun e w' => e = .returned (.bool true) ∧ Below w.heap.size w w' := by
  have HQ := Lib.hid hq
  cases hx : (upTo 7).find? (ofB q) with
  | none =>
    have HX := Lib.hid hx
    have HR := Lib.hid (of_no hq hx)
    cases hy : (upTo 7).find? (hitB k n) with
    | none =>
      have HY := Lib.hid hy
      clear hq hx hy
      go_enter Try.func4, Try.ntmps4
      go_wp2_with fail
      refine (ofc_none HX.out _).mono ?_
      rintro e w1 ⟨rfl, b1⟩
      go_wp2_with fail
      refine (rof_c q HQ.out 0 0 HR.out _).mono ?_
      rintro e w2 ⟨rfl, rfl⟩
      have p1 := PtAt.new w1 zeroPt
      obtain ⟨c1, c2, c3, c4⟩ := p1.cells
      simp only [zeroPt] at c1 c2 c3 c4
      go_wp2_with fail
      refine (find_none HY.out _).mono ?_
      rintro e w2 ⟨rfl, b2⟩
      clear c1 c2 c3 c4
      go_wp2_with fail
      refine (lives4 _).mono ?_
      rintro e w3 ⟨rfl, b3⟩
      go_wp2_with fail
      go_ret
      exact ⟨rfl, below_tr (below_box (below_tr (below_box b1 _) b2) _) b3⟩
    | some y =>
      have hyn : ofB q y = false := by simpa using List.find?_eq_none.1 hx y (List.mem_of_find?_eq_some hy)
      have h64 := at_64 y (List.mem_of_find?_eq_some hy)
      have hkn := hitB_iff.1 (List.find?_some hy)
      obtain ⟨k', n', a, z⟩ := y
      obtain ⟨rfl, rfl⟩ := hkn
      simp only at h64 hyn hy
      have HY := Lib.hid hy
      have HN : Hid (inW a z q 1 = false) := Lib.hid hyn
      have h64' : (Int.tmod a 64 == 0) = true := by rw [beq_iff_eq]; exact h64
      clear hq hx hy hyn
      go_enter Try.func4, Try.ntmps4
      go_wp2_with fail
      refine (ofc_none HX.out _).mono ?_
      rintro e w1 ⟨rfl, b1⟩
      go_wp2_with fail
      refine (rof_c q HQ.out 0 0 HR.out _).mono ?_
      rintro e w2 ⟨rfl, rfl⟩
      have p1 := PtAt.new w1 zeroPt
      obtain ⟨c1, c2, c3, c4⟩ := p1.cells
      simp only [zeroPt] at c1 c2 c3 c4
      go_wp2_with fail
      refine (find_some HY.out _).mono ?_
      rintro e w2 ⟨rfl, b2⟩
      clear c1 c2 c3 c4
      have p2 := PtAt.new w2 ⟨k', n', a, z⟩
      obtain ⟨c1, c2, c3, c4⟩ := p2.cells
      simp only at c1 c2 c3 c4
      go_wp2_with fail
      refine (inc _ _ _ _ _ false HN.out _).mono ?_
      rintro e w3 ⟨rfl, b3⟩
      clear c1 c2 c3 c4
      have c3 := (p2.below b3 (by simp)).cells.2.2.1
      simp only at c3
      go_wp2_with fail
      refine (lives4 _).mono ?_
      rintro e w4 ⟨rfl, b4⟩
      go_wp2_with fail
      go_ret
      exact ⟨rfl, below_tr (below_tr (below_box (below_tr (below_box b1 _) b2) _) b3) b4⟩
  | some x =>
    have hr := of_some hq hx
    obtain ⟨xk, xn, xa, xz⟩ := x
    obtain ⟨hr1, hr2, hr3⟩ := hr
    simp only at hr1 hr2
    have HX := Lib.hid hx
    have HR := Lib.hid hr1
    have HI : Hid (inW xa xz q 1 = true) := Lib.hid hr3
    have hk0 : decide (0 < xk) = true := decide_eq_true hr2
    cases hy : (upTo 7).find? (hitB k n) with
    | none =>
      have HY := Lib.hid hy
      clear hq hx hy hr1 hr3
      go_enter Try.func4, Try.ntmps4
      go_wp2_with fail
      refine (ofc_some HX.out _).mono ?_
      rintro e w1 ⟨rfl, b1⟩
      go_wp2_with fail
      refine (rof_c q HQ.out xk xn HR.out _).mono ?_
      rintro e w2 ⟨rfl, rfl⟩
      have p1 := PtAt.new w1 ⟨xk, xn, xa, xz⟩
      obtain ⟨c1, c2, c3, c4⟩ := p1.cells
      simp only at c1 c2 c3 c4
      go_wp2_with fail
      refine (inc _ _ _ _ _ true HI.out _).mono ?_
      rintro e w3 ⟨rfl, b3⟩
      clear c1 c2 c3 c4
      go_wp2_with fail
      refine (find_none HY.out _).mono ?_
      rintro e w4 ⟨rfl, b4⟩
      go_wp2_with fail
      refine (lives4 _).mono ?_
      rintro e w5 ⟨rfl, b5⟩
      go_wp2_with fail
      go_ret
      exact ⟨rfl, below_tr (below_box (below_tr (below_tr (below_box b1 _) b3) b4) _) b5⟩
    | some y =>
      have h64 := at_64 y (List.mem_of_find?_eq_some hy)
      have hkn := hitB_iff.1 (List.find?_some hy)
      have hone : ofB q y = true → y = ⟨xk, xn, xa, xz⟩ := fun h => of_one hq (List.mem_of_find?_eq_some hy) (List.mem_of_find?_eq_some hx) h hr3
      obtain ⟨k', n', a, z⟩ := y
      obtain ⟨rfl, rfl⟩ := hkn
      simp only at h64 hy
      have HY := Lib.hid hy
      have h64' : (Int.tmod a 64 == 0) = true := by rw [beq_iff_eq]; exact h64
      cases hin : inW a z q 1 with
      | false =>
        have HN := Lib.hid hin
        clear hq hx hy hr1 hr3 hone hin
        go_enter Try.func4, Try.ntmps4
        go_wp2_with fail
        refine (ofc_some HX.out _).mono ?_
        rintro e w1 ⟨rfl, b1⟩
        go_wp2_with fail
        refine (rof_c q HQ.out xk xn HR.out _).mono ?_
        rintro e w2 ⟨rfl, rfl⟩
        have p1 := PtAt.new w1 ⟨xk, xn, xa, xz⟩
        obtain ⟨c1, c2, c3, c4⟩ := p1.cells
        simp only at c1 c2 c3 c4
        go_wp2_with fail
        refine (inc _ _ _ _ _ true HI.out _).mono ?_
        rintro e w3 ⟨rfl, b3⟩
        clear c1 c2 c3 c4
        go_wp2_with fail
        refine (find_some HY.out _).mono ?_
        rintro e w4 ⟨rfl, b4⟩
        have p2 := PtAt.new w4 ⟨k', n', a, z⟩
        obtain ⟨c1, c2, c3, c4⟩ := p2.cells
        simp only at c1 c2 c3 c4
        go_wp2_with fail
        refine (inc _ _ _ _ _ false HN.out _).mono ?_
        rintro e w5 ⟨rfl, b5⟩
        clear c1 c2 c3 c4
        have c3 := (p2.below b5 (by simp)).cells.2.2.1
        simp only at c3
        go_wp2_with fail
        refine (lives4 _).mono ?_
        rintro e w6 ⟨rfl, b6⟩
        go_wp2_with fail
        go_ret
        exact ⟨rfl, below_tr (below_tr (below_box (below_tr (below_tr (below_box b1 _) b3) b4) _) b5) b6⟩
      | true =>
        have hxy := hone hin
        simp only [Pt.mk.injEq] at hxy
        obtain ⟨rfl, rfl, rfl, rfl⟩ := hxy
        have HN := Lib.hid hin
        clear hq hx hy hr1 hr3 hone hin
        go_enter Try.func4, Try.ntmps4
        go_wp2_with fail
        refine (ofc_some HX.out _).mono ?_
        rintro e w1 ⟨rfl, b1⟩
        go_wp2_with fail
        refine (rof_c q HQ.out _ _ HR.out _).mono ?_
        rintro e w2 ⟨rfl, rfl⟩
        have p1 := PtAt.new w1 ⟨k', n', a, z⟩
        obtain ⟨c1, c2, c3, c4⟩ := p1.cells
        simp only at c1 c2 c3 c4
        go_wp2_with fail
        refine (inc _ _ _ _ _ true HI.out _).mono ?_
        rintro e w3 ⟨rfl, b3⟩
        clear c1 c2 c3 c4
        replace p1 := p1.below b3 (by simp)
        go_wp2_with fail
        refine (find_some HY.out _).mono ?_
        rintro e w4 ⟨rfl, b4⟩
        replace p1 := (p1.below b4 p1.lt).alloc (.cells #[.int .i64 k', .int .i64 n', .int .i64 a, .int .i64 z] 23)
        have p2 := PtAt.new w4 ⟨k', n', a, z⟩
        obtain ⟨c1, c2, c3, c4⟩ := p2.cells
        simp only at c1 c2 c3 c4
        go_wp2_with fail
        refine (inc _ _ _ _ _ true HN.out _).mono ?_
        rintro e w5 ⟨rfl, b5⟩
        clear c1 c2 c3 c4
        obtain ⟨c1, c2, c3, c4⟩ := (p2.below b5 (by simp)).cells
        obtain ⟨d1, d2, d3, d4⟩ := (p1.below b5 p1.lt).cells
        simp only at c1 c2 c3 c4 d1 d2 d3 d4
        go_wp2_with fail
        refine (lives4 _).mono ?_
        rintro e w6 ⟨rfl, b6⟩
        go_wp2_with fail
        go_ret
        exact ⟨rfl, below_tr (below_tr (below_box (below_tr (below_tr (below_box b1 _) b3) b4) _) b5) b6⟩

end Go.Proofs.Ytallhdjmmliehaa
