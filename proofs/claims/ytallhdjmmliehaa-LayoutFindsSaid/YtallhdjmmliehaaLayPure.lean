/- The parts of a volume, as plain words. -/
import Derived.Test.YtallhdjmmliehaaRef4
namespace Go.Proofs.Ytallhdjmmliehaa
open Go.RowKit Go.Shelf

theorem mem_upTo {x : Pt} : x ∈ upTo 7 ↔ ∃ j, j < 7 ∧ ∃ i, i < mm j ∧ x = partAt j i := by
  simp only [upTo, partsTo, List.mem_flatMap, List.mem_map, List.mem_range]
  constructor
  · rintro ⟨j, hj, i, hi, rfl⟩; exact ⟨j, hj, i, hi, rfl⟩
  · rintro ⟨j, hj, i, hi, rfl⟩; exact ⟨j, hj, i, hi, rfl⟩
theorem st_row : ∀ j : Nat, j < 7 → stM ((j : Int) + 1) = (mm j : Int) ∧ stP ((j : Int) + 1) = rP j ∧ stS ((j : Int) + 1) = rS j ∧ numB ((j : Int) + 1) = decide (0 < rM j) ∧ (0 < rM j ∨ mm j = 1) := by decide
theorem row_apart : ∀ j : Nat, j < 7 → ∀ j' : Nat, j' < 7 → j < j' → rP j + (mm j : Int) * rS j ≤ rP j' := by decide
theorem kind_of {k : Int} (h : stM k ≠ 0) : ∃ j : Nat, j < 7 ∧ k = (j : Int) + 1 := by
  by_cases h1 : 1 ≤ k ∧ k ≤ 7
  · exact ⟨(k - 1).toNat, by omega, by omega⟩
  · refine absurd ?_ h
    simp only [stM]; repeat' split <;> omega

theorem hitB_iff {k n : Int} {x : Pt} : hitB k n x = true ↔ x.k = k ∧ x.n = n := by simp [hitB]

theorem hit_no {k n : Int} (h : noneB k n) : (upTo 7).find? (hitB k n) = none := by
  rw [List.find?_eq_none]
  intro x hx
  obtain ⟨j, hj, i, hi, rfl⟩ := mem_upTo.1 hx
  obtain ⟨e1, -, -, e4, e5⟩ := st_row j hj
  rw [hitB_iff]
  simp only [partAt, rK]
  rintro ⟨rfl, hn⟩
  have hb := row_bounds j hj
  simp only [noneB, e1, e4] at h
  by_cases hm : 0 < rM j
  · simp [hm] at h hn
    omega
  · simp [hm] at h hn
    omega

theorem hit_yes {k n : Int} (h : ¬ noneB k n) : (upTo 7).find? (hitB k n) = some ⟨k, n, if numB k then stP k + (n - 1) * stS k else stP k, stS k⟩ := by
  have h0 : stM k ≠ 0 := fun e => h (.inl e)
  obtain ⟨j, hj, rfl⟩ := kind_of h0
  obtain ⟨e1, e2, e3, e4, e5⟩ := st_row j hj
  have hb := row_bounds j hj
  have hex : ∃ i, i < mm j ∧ n = (if 0 < rM j then (i : Int) + 1 else 0) ∧ (⟨(j : Int) + 1, n, if numB ((j : Int) + 1) then stP ((j : Int) + 1) + (n - 1) * stS ((j : Int) + 1) else stP ((j : Int) + 1), stS ((j : Int) + 1)⟩ : Pt) = partAt j i := by
    rw [e2, e3, e4]
    simp only [noneB, e1, e4] at h
    by_cases hm : 0 < rM j
    · have hn : 1 ≤ n ∧ n ≤ mm j := by simp [hm] at h; omega
      obtain ⟨i, rfl⟩ : ∃ i : Nat, n = (i : Int) + 1 := ⟨(n - 1).toNat, by omega⟩
      exact ⟨i, by omega, by rw [if_pos hm], by simp [partAt, rK, hm]⟩
    · have hn : n = 0 := by simp [hm] at h; omega
      refine ⟨0, by omega, by rw [if_neg hm]; exact hn, ?_⟩
      simp [partAt, rK, hm, hn]
  obtain ⟨i, hi, hn, hx⟩ := hex
  rw [hx]
  cases hf : (upTo 7).find? (hitB ((j : Int) + 1) n) with
  | none =>
    exfalso
    have := List.find?_eq_none.1 hf (partAt j i) (mem_upTo.2 ⟨j, hj, i, hi, rfl⟩)
    rw [hitB_iff] at this
    exact this ⟨rfl, hn.symm⟩
  | some y =>
    have hy1 := List.find?_some hf
    have hy2 := List.mem_of_find?_eq_some hf
    obtain ⟨j', hj', i', hi', rfl⟩ := mem_upTo.1 hy2
    rw [hitB_iff] at hy1
    simp only [partAt, rK] at hy1
    obtain ⟨hk, hn'⟩ := hy1
    obtain rfl : j' = j := by omega
    rw [hn] at hn'
    by_cases hm : 0 < rM j'
    · simp only [if_pos hm] at hn'
      obtain rfl : i' = i := by omega
      rfl
    · obtain rfl : i' = i := by have := e5.resolve_left hm; omega
      rfl

theorem part_bounds {j i : Nat} (hj : j < 7) (hi : i < mm j) : 0 ≤ (partAt j i).a ∧ (partAt j i).a + (partAt j i).s ≤ rP j + (mm j : Int) * rS j ∧ rP j ≤ (partAt j i).a ∧ 64 ≤ (partAt j i).s ∧ (partAt j i).s ≤ 4096 ∧ (partAt j i).a + (partAt j i).s ≤ 100000 := by
  have hb := row_bounds j hj
  have h1 : ((i : Int) + 1) * rS j ≤ (mm j : Int) * rS j := Int.mul_le_mul_of_nonneg_right (by omega) (by omega)
  have h2 : 0 ≤ (i : Int) * rS j := Int.mul_nonneg (by omega) (by omega)
  rw [Int.add_mul, Int.one_mul] at h1
  simp only [partAt]
  omega

theorem ofB_iff {q : Int} (hq : -9223372036854775808 ≤ q ∧ q ≤ 9223372036854775807) {j i : Nat} (hj : j < 7) (hi : i < mm j) : ofB q (partAt j i) = true ↔ (partAt j i).a ≤ q ∧ q < (partAt j i).a + (partAt j i).s := by
  have hb := part_bounds hj hi
  obtain ⟨a, ha⟩ : ∃ a, (partAt j i).a = a := ⟨_, rfl⟩
  obtain ⟨s, hs⟩ : ∃ s, (partAt j i).s = s := ⟨_, rfl⟩
  rw [ha, hs] at hb
  rw [ofB, ha, hs]
  by_cases h : a ≤ q
  · have w1 : wrap64 (q - a) = q - a := IntWalk.wrap64_in _ (by omega)
    have w2 : wrap64 (s - 1) = s - 1 := IntWalk.wrap64_in _ (by omega)
    simp only [inW, w1, w2, Bool.and_eq_true, decide_eq_true_eq]
    omega
  · simp only [inW, Bool.and_eq_true, decide_eq_true_eq]
    omega

theorem same_row {q : Int} {j i j' i' : Nat} (hj : j < 7) (hi : i < mm j) (hj' : j' < 7) (hi' : i' < mm j') (h1 : (partAt j i).a ≤ q) (h2 : q < (partAt j i).a + (partAt j i).s) (h3 : (partAt j' i').a ≤ q) (h4 : q < (partAt j' i').a + (partAt j' i').s) : j = j' := by
  have b1 := part_bounds hj hi
  have b2 := part_bounds hj' hi'
  rcases Nat.lt_trichotomy j j' with h | h | h
  · have := row_apart j hj j' hj' h; omega
  · exact h
  · have := row_apart j' hj' j hj h; omega
theorem div_part {q : Int} {j i : Nat} (hj : j < 7) (h1 : (partAt j i).a ≤ q) (h2 : q < (partAt j i).a + (partAt j i).s) : (q - rP j) / rS j = i := by
  have hb := row_bounds j hj
  simp only [partAt] at h1 h2
  have e : q - rP j = (q - rP j - i * rS j) + i * rS j := by omega
  rw [e, Int.add_mul_ediv_right _ _ (by omega), Int.ediv_eq_zero_of_lt (by omega) (by omega)]
  omega
theorem of_one {q : Int} (hq : -9223372036854775808 ≤ q ∧ q ≤ 9223372036854775807) {x y : Pt} (hx : x ∈ upTo 7) (hy : y ∈ upTo 7) (h1 : ofB q x = true) (h2 : ofB q y = true) : x = y := by
  obtain ⟨j, hj, i, hi, rfl⟩ := mem_upTo.1 hx
  obtain ⟨j', hj', i', hi', rfl⟩ := mem_upTo.1 hy
  rw [ofB_iff hq hj hi] at h1
  rw [ofB_iff hq hj' hi'] at h2
  obtain rfl := same_row hj hi hj' hi' h1.1 h1.2 h2.1 h2.2
  have d1 := div_part hj h1.1 h1.2
  have d2 := div_part hj h2.1 h2.2
  rw [d1] at d2
  obtain rfl : i = i' := by omega
  rfl
theorem of_some {q : Int} (hq : -9223372036854775808 ≤ q ∧ q ≤ 9223372036854775807) {x : Pt} (h : (upTo 7).find? (ofB q) = some x) : rofV q = (x.k, x.n) ∧ 0 < x.k ∧ ofB q x = true := by
  have h1 := List.find?_some h
  obtain ⟨j, hj, i, hi, rfl⟩ := mem_upTo.1 (List.mem_of_find?_eq_some h)
  refine ⟨?_, by simp only [partAt, rK]; omega, h1⟩
  rw [ofB_iff hq hj hi] at h1
  have hb := part_bounds hj hi
  obtain ⟨e1, e2, e3, e4, e5⟩ := st_row j hj
  have hk : rofK q = some j := by
    refine rofK_at hj (fun j' hj' => ?_) ?_
    · obtain ⟨f1, f2, f3, -, -⟩ := st_row j' (by omega)
      have := row_apart j' (by omega) j hj hj'
      simp only [inK, f1, f2, f3, decide_eq_false_iff_not]
      omega
    · simp only [inK, e1, e2, e3, decide_eq_true_eq]
      omega
  rw [rofV, hk]
  simp only [rofN, e2, e3, e4, decide_eq_true_eq, div_part hj h1.1 h1.2]
  rfl
theorem of_no {q : Int} (hq : -9223372036854775808 ≤ q ∧ q ≤ 9223372036854775807) (h : (upTo 7).find? (ofB q) = none) : rofV q = (0, 0) := by
  have hk : rofK q = none := by
    refine rofK_none (fun j hj => ?_)
    obtain ⟨e1, e2, e3, -, -⟩ := st_row j hj
    have hb := row_bounds j hj
    simp only [inK, e1, e2, e3, decide_eq_false_iff_not]
    rintro ⟨h1, h2⟩
    have hi0 : 0 ≤ (q - rP j) / rS j := Int.ediv_nonneg (by omega) (by omega)
    have hi1 : (q - rP j) / rS j < mm j := Int.ediv_lt_of_lt_mul (by omega) (by omega)
    obtain ⟨i, hi⟩ : ∃ i : Nat, (q - rP j) / rS j = (i : Int) := ⟨((q - rP j) / rS j).toNat, by omega⟩
    rw [hi] at hi1
    have hi2 : i < mm j := by omega
    have hd := Int.mul_ediv_add_emod (q - rP j) (rS j)
    have hr := Int.emod_nonneg (q - rP j) (show rS j ≠ 0 by omega)
    have hr2 := Int.emod_lt_of_pos (q - rP j) (show 0 < rS j by omega)
    rw [hi, Int.mul_comm] at hd
    have := List.find?_eq_none.1 h (partAt j i) (mem_upTo.2 ⟨j, hj, i, hi2, rfl⟩)
    refine this ((ofB_iff hq hj hi2).2 ?_)
    simp only [partAt]
    omega
  rw [rofV, hk]
theorem at_64 : ∀ x ∈ upTo 7, x.a.tmod 64 = 0 := by
  have : (upTo 7).all (fun x => decide (x.a.tmod 64 = 0)) = true := by kernel_rfl
  intro x hx
  exact of_decide_eq_true (List.all_eq_true.1 this x hx)
theorem whole_all : (upTo 7).all (fun x => match (upTo 7).find? (ofB (x.a + x.s)) with | none => decide (x.a + x.s = 23168) | some y => decide (x.a + x.s ≠ 23168) && decide (y.a = x.a + x.s) && !decide (y = x)) = true := by kernel_rfl
end Go.Proofs.Ytallhdjmmliehaa
