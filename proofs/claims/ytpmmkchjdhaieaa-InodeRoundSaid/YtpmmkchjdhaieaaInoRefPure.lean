/- The document's test of inodes, in its own order: plain words. -/
import Derived.Test.YtpmmkchjdhaieaaInoPure
namespace Go.Proofs.Ytpmmkchjdhaieaa

def blkA (bl : List Int) (i : Nat) : Bool := decide (0 ≤ bl.getD i 0 ∧ bl.getD i 0 ≤ 128) && decide (∀ j, j < i → ¬ (bl.getD j 0 ≠ 0 ∧ bl.getD j 0 = bl.getD i 0))
def blkC (s : Int) (bl : List Int) (i : Nat) : Bool := decide (bl.getD i 0 ≠ 0 ↔ 64 * (i : Int) < s)
def opnA (k : Int) (ol : List Int) (i : Nat) : Bool := decide (0 ≤ ol.getD i 0 ∧ ol.getD i 0 ≤ 8) && decide (k ≠ 1 → ol.getD i 0 = 0)
def allB (f : Nat → Bool) : Nat → Bool
  | 0 => true
  | n + 1 => allB f n && f n
theorem allB_iff {f : Nat → Bool} {n : Nat} : allB f n = true ↔ ∀ i, i < n → f i = true := by
  induction n with
  | zero => simp [allB]
  | succ n ih =>
    rw [allB, Bool.and_eq_true, ih]
    constructor
    · rintro ⟨h1, h2⟩ i hi
      by_cases e : i = n
      · subst e; exact h2
      · exact h1 i (by omega)
    · intro h
      exact ⟨fun i hi => h i (by omega), h n (by omega)⟩
theorem allB_false {f : Nat → Bool} {i n : Nat} (h : f i = false) (hi : i < n) : allB f n = false := by
  cases hx : allB f n with
  | false => rfl
  | true => rw [allB_iff.1 hx i hi] at h; cases h
theorem blksOK_all {k s : Int} {bl : List Int} {n : Nat} : blksOK k s bl n = allB (blkOK k s bl) n := by
  induction n with
  | zero => rfl
  | succ n ih => rw [blksOK, allB, ih]
theorem opnsOK_all {m : Int} {ol : List Int} {n : Nat} : opnsOK m ol n = allB (opnOK m ol) n := by
  induction n with
  | zero => rfl
  | succ n ih => rw [opnsOK, allB, ih]
/-- The last test, by kind. -/
def lastI (k l s : Int) (bl ol : List Int) : Bool :=
  if k = 1 then allB (blkC s bl) 4 && decide (0 ≤ l ∧ l ≤ 20 ∧ 0 ≤ s ∧ s ≤ 256)
  else if k = 2 then decide (l = 1 ∧ 0 ≤ s ∧ s ≤ 16)
  else decide (k = 0 ∧ l = 0 ∧ s = 0 ∧ bl = List.replicate 4 0 ∧ ol = List.replicate 8 0)
theorem mayI_ref (k l s : Int) (bl ol : List Int) : mayI k l s bl ol = (allB (blkA bl) 4 && (allB (opnA k ol) 8 && lastI k l s bl ol)) := by
  rw [Bool.eq_iff_iff, Bool.and_eq_true, Bool.and_eq_true, allB_iff, allB_iff]
  unfold mayI lastI
  by_cases h0 : k = 0
  · rw [if_pos h0, if_neg (by omega), if_neg (by omega), decide_eq_true_iff, decide_eq_true_iff]
    constructor
    · rintro ⟨h1, h2, h3, h4⟩
      refine ⟨?_, ?_, h0, h1, h2, h3, h4⟩
      · intro i hi
        subst h3
        have e : ∀ j, (List.replicate 4 (0 : Int)).getD j 0 = 0 := by
          intro j
          rw [List.getD_eq_getElem?_getD, List.getElem?_replicate]
          split <;> rfl
        simp only [blkA, e]
        simp
      · intro i hi
        subst h4
        have e : ∀ j, (List.replicate 8 (0 : Int)).getD j 0 = 0 := by
          intro j
          rw [List.getD_eq_getElem?_getD, List.getElem?_replicate]
          split <;> rfl
        simp only [opnA, e]
        simp
    · rintro ⟨-, -, -, h⟩
      exact h
  · rw [if_neg h0]
    by_cases h1 : k = 1
    · rw [if_pos h1, if_pos h1]
      subst h1
      simp only [Bool.and_eq_true, decide_eq_true_iff, opnsOK_all, blksOK_all, allB_iff]
      constructor
      · rintro ⟨⟨⟨a, b⟩, c⟩, d⟩
        refine ⟨fun i hi => ?_, fun i hi => ?_, fun i hi => ?_, a.1, a.2, b.1, b.2⟩
        · have := blkOK_iff.1 (d i hi)
          simp only [blkA, Bool.and_eq_true, decide_eq_true_iff]
          exact ⟨this.1, this.2.1⟩
        · have := opnOK_iff.1 (c i hi)
          simp only [opnA, Bool.and_eq_true, decide_eq_true_iff]
          exact ⟨this, fun h => absurd rfl h⟩
        · have := (blkOK_iff.1 (d i hi)).2.2 rfl
          rw [blkC, decide_eq_true_iff]
          exact this
      · rintro ⟨a, b, c, d, e, f, g⟩
        refine ⟨⟨⟨⟨d, e⟩, f, g⟩, fun i hi => ?_⟩, fun i hi => ?_⟩
        · have := b i hi
          simp only [opnA, Bool.and_eq_true, decide_eq_true_iff] at this
          exact opnOK_iff.2 this.1
        · have h1 := a i hi
          have h2 := c i hi
          simp only [blkA, Bool.and_eq_true, decide_eq_true_iff] at h1
          rw [blkC, decide_eq_true_iff] at h2
          exact blkOK_iff.2 ⟨h1.1, h1.2, fun _ => h2⟩
    · rw [if_neg h1, if_neg h1]
      by_cases h2 : k = 2
      · rw [if_pos h2, if_pos h2]
        subst h2
        simp only [Bool.and_eq_true, decide_eq_true_iff, opnsOK_all, blksOK_all, allB_iff]
        constructor
        · rintro ⟨⟨⟨a, b⟩, c⟩, d⟩
          refine ⟨fun i hi => ?_, fun i hi => ?_, a, b.1, b.2⟩
          · have := blkOK_iff.1 (d i hi)
            simp only [blkA, Bool.and_eq_true, decide_eq_true_iff]
            exact ⟨this.1, this.2.1⟩
          · have := opnOK_iff.1 (c i hi)
            simp only [opnA, Bool.and_eq_true, decide_eq_true_iff]
            exact ⟨⟨by omega, by omega⟩, fun _ => by omega⟩
        · rintro ⟨a, b, d, e, f⟩
          refine ⟨⟨⟨d, e, f⟩, fun i hi => ?_⟩, fun i hi => ?_⟩
          · have := b i hi
            simp only [opnA, Bool.and_eq_true, decide_eq_true_iff] at this
            have h0 := this.2 (by omega)
            exact opnOK_iff.2 (by omega)
          · have h1 := a i hi
            simp only [blkA, Bool.and_eq_true, decide_eq_true_iff] at h1
            exact blkOK_iff.2 ⟨h1.1, h1.2, fun h => by omega⟩
      · rw [if_neg h2, if_neg h2]
        simp [h0]
end Go.Proofs.Ytpmmkchjdhaieaa
