/- Inodes as bytes: plain words. -/
import Derived.Test.YtnbgkkjhmdfmiaaSlotPure
namespace Go.Proofs.Ytnbgkkjhmdfmiaa

/-- The blocks may be. -/
def blkOK (k s : Int) (bl : List Int) (i : Nat) : Bool :=
  decide (0 ≤ bl.getD i 0 ∧ bl.getD i 0 ≤ 128) && decide (∀ j, j < i → ¬ (bl.getD j 0 ≠ 0 ∧ bl.getD j 0 = bl.getD i 0)) && decide (k = 1 → (bl.getD i 0 ≠ 0 ↔ 64 * (i : Int) < s))
def blksOK (k s : Int) (bl : List Int) : Nat → Bool
  | 0 => true
  | i + 1 => blksOK k s bl i && blkOK k s bl i
/-- The descriptors may be. -/
def opnOK (m : Int) (ol : List Int) (i : Nat) : Bool := decide (0 ≤ ol.getD i 0 ∧ ol.getD i 0 ≤ m)
def opnsOK (m : Int) (ol : List Int) : Nat → Bool
  | 0 => true
  | i + 1 => opnsOK m ol i && opnOK m ol i
theorem blksOK_false {k s : Int} {bl : List Int} {i n : Nat} (h : blkOK k s bl i = false) (hi : i < n) : blksOK k s bl n = false := by
  induction n with
  | zero => omega
  | succ n ih =>
    rw [blksOK]
    by_cases e : i = n
    · subst e; rw [h, Bool.and_false]
    · rw [ih (by omega), Bool.false_and]
theorem opnsOK_false {m : Int} {ol : List Int} {i n : Nat} (h : opnOK m ol i = false) (hi : i < n) : opnsOK m ol n = false := by
  induction n with
  | zero => omega
  | succ n ih =>
    rw [opnsOK]
    by_cases e : i = n
    · subst e; rw [h, Bool.and_false]
    · rw [ih (by omega), Bool.false_and]
theorem blksOK_at {k s : Int} {bl : List Int} {i n : Nat} (h : blksOK k s bl n = true) (hi : i < n) : blkOK k s bl i = true := by
  cases hb : blkOK k s bl i with
  | true => rfl
  | false => rw [blksOK_false hb hi] at h; cases h
theorem opnsOK_at {m : Int} {ol : List Int} {i n : Nat} (h : opnsOK m ol n = true) (hi : i < n) : opnOK m ol i = true := by
  cases hb : opnOK m ol i with
  | true => rfl
  | false => rw [opnsOK_false hb hi] at h; cases h
theorem blkOK_iff {k s : Int} {bl : List Int} {i : Nat} : blkOK k s bl i = true ↔ (0 ≤ bl.getD i 0 ∧ bl.getD i 0 ≤ 128) ∧ (∀ j, j < i → ¬ (bl.getD j 0 ≠ 0 ∧ bl.getD j 0 = bl.getD i 0)) ∧ (k = 1 → (bl.getD i 0 ≠ 0 ↔ 64 * (i : Int) < s)) := by
  simp only [blkOK, Bool.and_eq_true, decide_eq_true_iff, and_assoc]
theorem opnOK_iff {m : Int} {ol : List Int} {i : Nat} : opnOK m ol i = true ↔ 0 ≤ ol.getD i 0 ∧ ol.getD i 0 ≤ m := by simp only [opnOK, decide_eq_true_iff]

/-- An inode that may be. -/
def mayI (k l s : Int) (bl ol : List Int) : Bool :=
  if k = 0 then decide (l = 0 ∧ s = 0 ∧ bl = List.replicate 4 0 ∧ ol = List.replicate 8 0)
  else if k = 1 then decide (0 ≤ l ∧ l ≤ 20) && decide (0 ≤ s ∧ s ≤ 256) && opnsOK 8 ol 8 && blksOK k s bl 4
  else if k = 2 then decide (l = 1) && decide (0 ≤ s ∧ s ≤ 16) && opnsOK 0 ol 8 && blksOK k s bl 4
  else false

/-- What a lawful inode's parts fit. -/
theorem mayI_fits {k l s : Int} {bl ol : List Int} (h : mayI k l s bl ol = true) :
    0 ≤ k ∧ k ≤ 2 ∧ 0 ≤ l ∧ l ≤ 20 ∧ 0 ≤ s ∧ s ≤ 256 ∧ (∀ i, i < 4 → 0 ≤ bl.getD i 0 ∧ bl.getD i 0 ≤ 128) ∧ (∀ i, i < 8 → 0 ≤ ol.getD i 0 ∧ ol.getD i 0 ≤ 8) := by
  unfold mayI at h
  split at h
  · rw [decide_eq_true_iff] at h
    obtain ⟨h1, h2, h3, h4⟩ := h
    refine ⟨by omega, by omega, by omega, by omega, by omega, by omega, ?_, ?_⟩
    · intro i hi
      rw [h3, List.getD_eq_getElem?_getD, List.getElem?_replicate, if_pos hi]; simp
    · intro i hi
      rw [h4, List.getD_eq_getElem?_getD, List.getElem?_replicate, if_pos hi]; simp
  · split at h
    · simp only [Bool.and_eq_true, decide_eq_true_iff] at h
      obtain ⟨⟨⟨h1, h2⟩, h3⟩, h4⟩ := h
      exact ⟨by omega, by omega, by omega, by omega, by omega, by omega, fun i hi => (blkOK_iff.1 (blksOK_at h4 hi)).1, fun i hi => opnOK_iff.1 (opnsOK_at h3 hi)⟩
    · split at h
      · simp only [Bool.and_eq_true, decide_eq_true_iff] at h
        obtain ⟨⟨⟨h1, h2⟩, h3⟩, h4⟩ := h
        refine ⟨by omega, by omega, by omega, by omega, by omega, by omega, fun i hi => (blkOK_iff.1 (blksOK_at h4 hi)).1, fun i hi => ?_⟩
        have := opnOK_iff.1 (opnsOK_at h3 hi)
        omega
      · cases h

/-- Bytes of numbers of one byte each. -/
def ones (l : List Int) : List UInt8 := l.map fun n => UInt8.ofNat (n.toNat % 256)
theorem ones_length (l : List Int) : (ones l).length = l.length := by simp [ones]
/-- An inode's own bytes. -/
def ino16 (k l s : Int) (bl ol : List Int) : List UInt8 := ones [k, l] ++ (leB s.toNat 2 ++ (ones bl ++ ones ol))
theorem ino16_length {k l s : Int} {bl ol : List Int} (hb : bl.length = 4) (ho : ol.length = 8) : (ino16 k l s bl ol).length = 16 := by
  simp [ino16, ones_length, leB_length, hb, ho]
def inoB (k l s : Int) (bl ol : List Int) : List UInt8 := if k = 0 then List.replicate 64 0 else sealB (ino16 k l s bl ol)
theorem inoB_length {k l s : Int} {bl ol : List Int} (hb : bl.length = 4) (ho : ol.length = 8) : (inoB k l s bl ol).length = 64 := by
  unfold inoB
  split
  · simp
  · exact sealB_length (by rw [ino16_length hb ho]; omega)

/-- The numbers of bytes. -/
def by_ (b : List UInt8) (i : Nat) : Int := ((b.getD i 0).toNat : Int)
def iK (b : List UInt8) : Int := by_ b 0
def iL (b : List UInt8) : Int := by_ b 1
def iS (b : List UInt8) : Int := getN b 2 2
def iB (b : List UInt8) : List Int := [by_ b 4, by_ b 5, by_ b 6, by_ b 7]
def iO (b : List UInt8) : List Int := [by_ b 8, by_ b 9, by_ b 10, by_ b 11, by_ b 12, by_ b 13, by_ b 14, by_ b 15]
theorem by_take {b : List UInt8} {i m : Nat} (h : i < m) : by_ (b.take m) i = by_ b i := by
  unfold by_
  rw [List.getD_eq_getElem?_getD, List.getD_eq_getElem?_getD, List.getElem?_take, if_pos h]
theorem by_get {b : List UInt8} {i : Nat} (h : i < b.length) : by_ b i = ((b[i]).toNat : Int) := by
  unfold by_
  rw [List.getD_eq_getElem?_getD, List.getElem?_eq_getElem h]; rfl
theorem by_lt (b : List UInt8) (i : Nat) : 0 ≤ by_ b i ∧ by_ b i < 256 := by
  unfold by_
  have := (b.getD i 0).toNat_lt
  omega
theorem by_byte (b : List UInt8) (i : Nat) : UInt8.ofNat ((by_ b i).toNat % 256) = b.getD i 0 := by
  apply UInt8.toNat_inj.1
  have := (b.getD i 0).toNat_lt
  unfold by_
  simp
theorem iS_take {b : List UInt8} (h : 64 ≤ b.length) : iS (b.take 64) = iS b := getN_take (a := 2) (wd := 2) (by omega) h
theorem parts_take {b : List UInt8} (h : 64 ≤ b.length) : iK (b.take 64) = iK b ∧ iL (b.take 64) = iL b ∧ iS (b.take 64) = iS b ∧ iB (b.take 64) = iB b ∧ iO (b.take 64) = iO b := by
  refine ⟨by_take (by omega), by_take (by omega), iS_take h, ?_, ?_⟩
  · unfold iB; rw [by_take (by omega), by_take (by omega), by_take (by omega), by_take (by omega)]
  · unfold iO; rw [by_take (by omega), by_take (by omega), by_take (by omega), by_take (by omega), by_take (by omega), by_take (by omega), by_take (by omega), by_take (by omega)]

def noneB (b : List UInt8) : Bool := decide (b.take 64 = List.replicate 64 0)
def mayJ (b : List UInt8) : Bool := mayI (iK b) (iL b) (iS b) (iB b) (iO b)
def inoJ (b : List UInt8) : List UInt8 := inoB (iK b) (iL b) (iS b) (iB b) (iO b)
/-- Bytes that are opened are just an inode's. -/
def sameI (b : List UInt8) : Bool := mayJ b && decide (inoJ b = b.take 64)
/-- The document's test. -/
def sameK (b : List UInt8) : Bool := zerosB b 16 60 && (mayJ b && !decide (iK b = 0))

theorem ones_at {l : List Int} {i : Nat} (h : i < l.length) : (ones l)[i]'(by rw [ones_length]; exact h) = UInt8.ofNat ((l[i]).toNat % 256) := by simp [ones]
theorem take16 {b : List UInt8} (h : 64 ≤ b.length) : b.take 16 = ino16 (iK b) (iL b) (iS b) (iB b) (iO b) := by
  have k1 := get_piece (getK_small (b := b) (a := 2) (wd := 2) (.inr (.inl rfl)) (by omega))
  have k1' : (b.drop 2).take 2 = leB (iS b).toNat 2 := k1
  rw [ino16, ← k1']
  apply List.ext_getElem
  · simp [ones_length, iB, iO]; omega
  · intro i h1 h2
    have hi : i < 16 := by simp at h1; omega
    have e : (b.take 16)[i] = b.getD i 0 := by
      rw [List.getElem_take, List.getD_eq_getElem?_getD, List.getElem?_eq_getElem (by omega)]; rfl
    rw [e]
    have : i = 0 ∨ i = 1 ∨ i = 2 ∨ i = 3 ∨ i = 4 ∨ i = 5 ∨ i = 6 ∨ i = 7 ∨ i = 8 ∨ i = 9 ∨ i = 10 ∨ i = 11 ∨ i = 12 ∨ i = 13 ∨ i = 14 ∨ i = 15 := by omega
    have hd : ∀ j, j < 2 → ∀ (q : j < ((b.drop 2).take 2).length), ((b.drop 2).take 2)[j] = b.getD (2 + j) 0 := by
      intro j hj q
      rw [List.getElem_take, List.getElem_drop, List.getD_eq_getElem?_getD, List.getElem?_eq_getElem (by omega)]; rfl
    have hl2 : ((b.drop 2).take 2).length = 2 := by simp; omega
    have q2 := hd 0 (by omega) (by omega)
    have q3 := hd 1 (by omega) (by omega)
    obtain ⟨u, v, huv⟩ : ∃ u v, (b.drop 2).take 2 = [u, v] := by
      match h : (b.drop 2).take 2, hl2 with
      | [u, v], _ => exact ⟨u, v, rfl⟩
    simp only [huv] at q2 q3 ⊢
    simp only [List.getElem_cons_zero, List.getElem_cons_succ] at q2 q3
    rcases this with rfl | rfl | rfl | rfl | rfl | rfl | rfl | rfl | rfl | rfl | rfl | rfl | rfl | rfl | rfl | rfl <;>
      simp [ones, iB, iO, iK, iL, by_byte, q2, q3, -UInt8.ofNat_toNat]

theorem inoB_form {k l s : Int} {bl ol : List Int} (hk : k ≠ 0) (hb : bl.length = 4) (ho : ol.length = 8) : inoB k l s bl ol = ino16 k l s bl ol ++ (List.replicate 44 0 ++ leB (crcN (fill60 (ino16 k l s bl ol))) 4) := by
  rw [inoB, if_neg hk, sealB, sumB, fill60, ino16_length hb ho, List.append_assoc]

theorem ino_pieces {b : List UInt8} (h : 64 ≤ b.length) (hs : getN b 60 4 = (crcN (b.take 60) : Nat)) (hz : zerosB b 16 60 = true) (hk : iK b ≠ 0) : inoJ b = b.take 64 := by
  rw [zerosB, decide_eq_true_iff] at hz
  have e16 := take16 h
  have e60 : b.take 60 = fill60 (b.take 16) := by
    rw [fill60, List.length_take, Nat.min_eq_left (by omega), show (60 : Nat) = 16 + 44 from rfl, List.take_add]
    congr 1
  have := sum_right (b := b) (m := 60) h hs
  rw [show 60 + 4 = 64 from rfl, e60, e16] at this
  rw [inoJ, inoB, if_neg hk]
  exact this.symm

theorem sameI_eq {b : List UInt8} (h : openE b = 0) (hn : noneB b = false) : sameI b = sameK b := by
  obtain ⟨hl, hs⟩ := open_len h
  rw [Bool.eq_iff_iff]
  simp only [sameI, sameK, Bool.and_eq_true, decide_eq_true_iff, Bool.not_eq_true', decide_eq_false_iff_not]
  constructor
  · rintro ⟨hm, he⟩
    have hk : iK b ≠ 0 := by
      intro e
      rw [inoJ, inoB, if_pos e] at he
      rw [noneB, he.symm, decide_eq_false_iff_not] at hn
      exact hn rfl
    refine ⟨?_, hm, hk⟩
    rw [zeros_iff (by omega)]
    intro i i1 i2
    have e1 : (b.take 64)[i]'(by simp; omega) = 0 := by
      have hf := inoB_form (l := iL b) (s := iS b) (bl := iB b) (ol := iO b) hk rfl rfl
      have hf' : b.take 64 = _ := he.symm.trans hf
      simp only [hf']
      rw [List.getElem_append_right (by rw [ino16_length rfl rfl]; omega), List.getElem_append_left (by rw [ino16_length rfl rfl, List.length_replicate]; omega)]
      exact List.getElem_replicate _
    simpa using e1
  · rintro ⟨hz, hm, hk⟩
    exact ⟨hm, ino_pieces hl hs hz hk⟩

/-- What is read of bytes. -/
def readIE (b : List UInt8) : Int := if b.length < 64 then 3 else if noneB b then 0 else if openE b = 0 then (if sameI b then 0 else 2) else openE b
/-- Whether the parts are told. -/
def readIP (b : List UInt8) : Bool := decide (readIE b = 0) && !noneB b

theorem ones_parts {l : List Int} (h : ∀ n ∈ l, 0 ≤ n ∧ n < 256) : (ones l).map (fun u => (u.toNat : Int)) = l := by
  unfold ones
  rw [List.map_map]
  conv => rhs; rw [← List.map_id l]
  apply List.map_congr_left
  intro n hn
  have := h n hn
  simp
  omega

theorem ino_gets {k l s : Int} {b0 b1 b2 b3 o0 o1 o2 o3 o4 o5 o6 o7 : Int} (h : mayI k l s [b0, b1, b2, b3] [o0, o1, o2, o3, o4, o5, o6, o7] = true) (hk : k ≠ 0) :
    iK (inoB k l s [b0, b1, b2, b3] [o0, o1, o2, o3, o4, o5, o6, o7]) = k ∧ iL (inoB k l s [b0, b1, b2, b3] [o0, o1, o2, o3, o4, o5, o6, o7]) = l ∧ iS (inoB k l s [b0, b1, b2, b3] [o0, o1, o2, o3, o4, o5, o6, o7]) = s ∧
    iB (inoB k l s [b0, b1, b2, b3] [o0, o1, o2, o3, o4, o5, o6, o7]) = [b0, b1, b2, b3] ∧ iO (inoB k l s [b0, b1, b2, b3] [o0, o1, o2, o3, o4, o5, o6, o7]) = [o0, o1, o2, o3, o4, o5, o6, o7] := by
  obtain ⟨k0, k1, l0, l1, s0, s1, hb, ho⟩ := mayI_fits h
  have p0 := hb 0 (by omega); have p1 := hb 1 (by omega); have p2 := hb 2 (by omega); have p3 := hb 3 (by omega)
  have q0 := ho 0 (by omega); have q1 := ho 1 (by omega); have q2 := ho 2 (by omega); have q3 := ho 3 (by omega)
  have q4 := ho 4 (by omega); have q5 := ho 5 (by omega); have q6 := ho 6 (by omega); have q7 := ho 7 (by omega)
  simp at p0 p1 p2 p3 q0 q1 q2 q3 q4 q5 q6 q7
  have hf := inoB_form (l := l) (s := s) (bl := [b0, b1, b2, b3]) (ol := [o0, o1, o2, o3, o4, o5, o6, o7]) hk rfl rfl
  have hS := (get_mid (bs := inoB k l s [b0, b1, b2, b3] [o0, o1, o2, o3, o4, o5, o6, o7]) (p := ones [k, l]) (n := s) (a := 2) (wd := 2) (by rw [hf, ino16, List.append_assoc, List.append_assoc]) rfl (by simp [fitsB]; omega) (by omega)).1
  have hl2 : (leB s.toNat 2) = [UInt8.ofNat (s.toNat % 256), UInt8.ofNat (s.toNat / 256 % 256)] := rfl
  rw [ino16, hl2] at hf
  refine ⟨?_, ?_, hS, ?_, ?_⟩
  · unfold iK by_; rw [hf]; simp [ones]; omega
  · unfold iL by_; rw [hf]; simp [ones]; omega
  · unfold iB by_; rw [hf]; simp [ones]; omega
  · unfold iO by_; rw [hf]; simp [ones]; omega

theorem ino_not_none {k l s : Int} {bl ol : List Int} (hk : k ≠ 0) (hk1 : 0 ≤ k) (hk2 : k ≤ 2) (hb : bl.length = 4) (ho : ol.length = 8) : noneB (inoB k l s bl ol) = false := by
  rw [noneB, decide_eq_false_iff_not]
  intro e
  have := congrArg (fun l => l.getD 0 1) e
  rw [inoB_form hk hb ho, ino16] at this
  simp [ones, List.replicate] at this
  have h2 := congrArg UInt8.toNat this
  simp at h2
  omega
theorem readIE_ino {k l s : Int} {b0 b1 b2 b3 o0 o1 o2 o3 o4 o5 o6 o7 : Int} (h : mayI k l s [b0, b1, b2, b3] [o0, o1, o2, o3, o4, o5, o6, o7] = true) : readIE (inoB k l s [b0, b1, b2, b3] [o0, o1, o2, o3, o4, o5, o6, o7]) = 0 := by
  have hl : (inoB k l s [b0, b1, b2, b3] [o0, o1, o2, o3, o4, o5, o6, o7]).length = 64 := inoB_length rfl rfl
  rw [readIE, if_neg (by omega)]
  by_cases hk : k = 0
  · rw [if_pos]
    rw [noneB, inoB, if_pos hk]; decide
  · obtain ⟨k0, k1, -⟩ := mayI_fits h
    rw [ino_not_none hk k0 k1 rfl rfl, if_neg (by simp)]
    have hg := ino_gets h hk
    have ho : openE (inoB k l s [b0, b1, b2, b3] [o0, o1, o2, o3, o4, o5, o6, o7]) = 0 := by rw [inoB, if_neg hk]; exact openE_seal (by rw [ino16_length rfl rfl]; omega)
    rw [if_pos ho, if_pos]
    unfold sameI mayJ inoJ
    rw [hg.1, hg.2.1, hg.2.2.1, hg.2.2.2.1, hg.2.2.2.2, h, List.take_of_length_le (by omega)]
    simp
theorem readIE_turned {k l s : Int} {bl ol : List Int} (hb : bl.length = 4) (ho : ol.length = 8) (hk : k ≠ 0) {i : Nat} (hi : i < (inoB k l s bl ol).length) {x : UInt8} (hx : x ≠ (inoB k l s bl ol)[i])
    (hn : noneB ((inoB k l s bl ol).set i x) = false) : readIE ((inoB k l s bl ol).set i x) = 4 := by
  have hl := inoB_length (k := k) (l := l) (s := s) hb ho
  have e : inoB k l s bl ol = sealB (ino16 k l s bl ol) := by rw [inoB, if_neg hk]
  rw [readIE, if_neg (by rw [List.length_set]; omega), hn, if_neg (by simp)]
  have h4 : openE ((inoB k l s bl ol).set i x) = 4 := by
    simp only [e] at hi hx ⊢
    exact openE_turned (by rw [ino16_length hb ho]; omega) hi hx
  rw [h4]; rfl
end Go.Proofs.Ytnbgkkjhmdfmiaa
