/- Slots and heads as bytes: plain words. Inodes as bytes: plain words. A record's bytes, by their parts: plain words. A record read out of bytes: plain words. No statement of the seat is proved here. -/
import Derived.Test.YtnbgkkjhmdfmiaaZ04
import Derived.Test.YtnbgkkjhmdfmiaaZ01
import Derived.Test.YtnbgkkjhmdfmiaaZ02
namespace Go.Proofs.Ytnbgkkjhmdfmiaa

/-- Bytes filled up to 60 with noughts, and their sum. -/
def fill60 (b : List UInt8) : List UInt8 := b ++ List.replicate (60 - b.length) 0
def sealB (b : List UInt8) : List UInt8 := sumB (fill60 b)
theorem fill60_length {b : List UInt8} (h : b.length ≤ 60) : (fill60 b).length = 60 := by simp [fill60]; omega
theorem sealB_length {b : List UInt8} (h : b.length ≤ 60) : (sealB b).length = 64 := by rw [sealB, sumB_length, fill60_length h]

/-- What bytes are refused for: too short, or of no right sum. -/
def openE (b : List UInt8) : Int := if b.length < 64 then 3 else if getN b 60 4 = (crcN (b.take 60) : Nat) then 0 else 4

theorem openE_seal {b : List UInt8} (h : b.length ≤ 60) : openE (sealB b) = 0 := by
  have hl := fill60_length h
  have h1 := sumB_get' (fill60 b)
  have h2 := sumB_take (fill60 b) []
  rw [hl] at h1 h2
  rw [List.append_nil] at h2
  rw [openE, if_neg (by rw [sealB_length h]; omega), if_pos]
  rw [sealB, h2]
  exact h1
theorem openE_turned {b : List UInt8} (h : b.length ≤ 60) {k : Nat} (hk : k < (sealB b).length) {x : UInt8} (hx : x ≠ (sealB b)[k]) : openE ((sealB b).set k x) = 4 := by
  have hl := fill60_length h
  have h1 := sum_turned (p := fill60 b) hk hx
  rw [hl] at h1
  have h2 : ¬ getN ((sealB b).set k x) 60 4 = (crcN (((sealB b).set k x).take 60) : Nat) := h1
  rw [openE, if_neg (by rw [List.length_set, sealB_length h]; omega), if_neg h2]
theorem open_len {b : List UInt8} (h : openE b = 0) : 64 ≤ b.length ∧ getN b 60 4 = (crcN (b.take 60) : Nat) := by
  unfold openE at h
  split at h
  · omega
  · split at h
    · exact ⟨by omega, by assumption⟩
    · omega

/-- A slot that may be. -/
def mayS (ep hd rp er io wr : Int) : Bool := decide (0 ≤ ep ∧ ep ≤ 1073741824 ∧ 0 ≤ hd ∧ hd ≤ 1024 ∧ 0 ≤ rp ∧ rp ≤ 1099511627776 ∧ 0 ≤ wr ∧ wr ≤ 1099511627776 ∧ 0 ≤ er ∧ er ≤ 255 ∧ 0 ≤ io ∧ io ≤ 32)
theorem mayS_iff {ep hd rp er io wr : Int} : mayS ep hd rp er io wr = true ↔ 0 ≤ ep ∧ ep ≤ 1073741824 ∧ 0 ≤ hd ∧ hd ≤ 1024 ∧ 0 ≤ rp ∧ rp ≤ 1099511627776 ∧ 0 ≤ wr ∧ wr ≤ 1099511627776 ∧ 0 ≤ er ∧ er ≤ 255 ∧ 0 ≤ io ∧ io ≤ 32 := by rw [mayS, decide_eq_true_iff]
/-- A slot's own bytes. -/
def slot26 (ep hd rp er io wr : Int) : List UInt8 := leB ep.toNat 4 ++ (leB hd.toNat 4 ++ (leB rp.toNat 8 ++ (leB er.toNat 1 ++ (leB io.toNat 1 ++ leB wr.toNat 8))))
theorem slot26_length (ep hd rp er io wr : Int) : (slot26 ep hd rp er io wr).length = 26 := by simp [slot26, leB_length]
def slotB (ep hd rp er io wr : Int) : List UInt8 := sealB (slot26 ep hd rp er io wr)
theorem slotB_length (ep hd rp er io wr : Int) : (slotB ep hd rp er io wr).length = 64 := sealB_length (by rw [slot26_length]; omega)
theorem slotB_form (ep hd rp er io wr : Int) : slotB ep hd rp er io wr = slot26 ep hd rp er io wr ++ (List.replicate 34 0 ++ leB (crcN (fill60 (slot26 ep hd rp er io wr))) 4) := by
  rw [slotB, sealB, sumB, fill60, slot26_length, List.append_assoc]
theorem slot_gets {ep hd rp er io wr : Int} (h : mayS ep hd rp er io wr = true) :
    (getN (slotB ep hd rp er io wr) 0 4 = ep ∧ getN (slotB ep hd rp er io wr) 4 4 = hd ∧ getN (slotB ep hd rp er io wr) 8 8 = rp ∧ getN (slotB ep hd rp er io wr) 16 1 = er ∧ getN (slotB ep hd rp er io wr) 17 1 = io ∧ getN (slotB ep hd rp er io wr) 18 8 = wr) ∧ getK (slotB ep hd rp er io wr) 8 8 = true ∧ getK (slotB ep hd rp er io wr) 18 8 = true := by
  obtain ⟨a1, a2, b1, b2, c1, c2, d1, d2, e1, e2, f1, f2⟩ := mayS_iff.1 h
  obtain ⟨z, hz⟩ : ∃ z, z = List.replicate 34 (0 : UInt8) ++ leB (crcN (fill60 (slot26 ep hd rp er io wr))) 4 := ⟨_, rfl⟩
  have hf := slotB_form ep hd rp er io wr
  rw [← hz, slot26] at hf
  have g0 := get_mid (bs := slotB ep hd rp er io wr) (p := []) (q := leB hd.toNat 4 ++ (leB rp.toNat 8 ++ (leB er.toNat 1 ++ (leB io.toNat 1 ++ leB wr.toNat 8))) ++ z) (n := ep) (a := 0) (wd := 4) (by rw [hf]; simp) rfl (by simp [fitsB]; omega) (by omega)
  have g1 := get_mid (bs := slotB ep hd rp er io wr) (p := leB ep.toNat 4) (q := (leB rp.toNat 8 ++ (leB er.toNat 1 ++ (leB io.toNat 1 ++ leB wr.toNat 8))) ++ z) (n := hd) (a := 4) (wd := 4) (by rw [hf]; simp) (by simp [leB_length]) (by simp [fitsB]; omega) (by omega)
  have g2 := get_mid (bs := slotB ep hd rp er io wr) (p := leB ep.toNat 4 ++ leB hd.toNat 4) (q := (leB er.toNat 1 ++ (leB io.toNat 1 ++ leB wr.toNat 8)) ++ z) (n := rp) (a := 8) (wd := 8) (by rw [hf]; simp) (by simp [leB_length]) (by simp [fitsB]; omega) (by omega)
  have g3 := get_mid (bs := slotB ep hd rp er io wr) (p := leB ep.toNat 4 ++ leB hd.toNat 4 ++ leB rp.toNat 8) (q := (leB io.toNat 1 ++ leB wr.toNat 8) ++ z) (n := er) (a := 16) (wd := 1) (by rw [hf]; simp) (by simp [leB_length]) (by simp [fitsB]; omega) (by omega)
  have g4 := get_mid (bs := slotB ep hd rp er io wr) (p := leB ep.toNat 4 ++ leB hd.toNat 4 ++ leB rp.toNat 8 ++ leB er.toNat 1) (q := leB wr.toNat 8 ++ z) (n := io) (a := 17) (wd := 1) (by rw [hf]; simp) (by simp [leB_length]) (by simp [fitsB]; omega) (by omega)
  have g5 := get_mid (bs := slotB ep hd rp er io wr) (p := leB ep.toNat 4 ++ leB hd.toNat 4 ++ leB rp.toNat 8 ++ leB er.toNat 1 ++ leB io.toNat 1) (q := z) (n := wr) (a := 18) (wd := 8) (by rw [hf]; simp) (by simp [leB_length]) (by simp [fitsB]; omega) (by omega)
  exact ⟨⟨g0.1, g1.1, g2.1, g3.1, g4.1, g5.1⟩, g2.2, g5.2⟩

/-- The six numbers of bytes. -/
def sEp (b : List UInt8) : Int := getN b 0 4
def sHd (b : List UInt8) : Int := getN b 4 4
def sRp (b : List UInt8) : Int := getN b 8 8
def sEr (b : List UInt8) : Int := getN b 16 1
def sIo (b : List UInt8) : Int := getN b 17 1
def sWr (b : List UInt8) : Int := getN b 18 8
def mayG (b : List UInt8) : Bool := mayS (sEp b) (sHd b) (sRp b) (sEr b) (sIo b) (sWr b)
def slotG (b : List UInt8) : List UInt8 := slotB (sEp b) (sHd b) (sRp b) (sEr b) (sIo b) (sWr b)
/-- Bytes that are opened are just a slot's. -/
def sameG (b : List UInt8) : Bool := mayG b && decide (slotG b = b.take 64)
/-- The document's test. -/
def sameD (b : List UInt8) : Bool := zerosB b 26 60 && (getK b 8 8 && getK b 18 8 && mayG b)

theorem take_get {b : List UInt8} (h : 64 ≤ b.length) : sEp (b.take 64) = sEp b ∧ sHd (b.take 64) = sHd b ∧ sRp (b.take 64) = sRp b ∧ sEr (b.take 64) = sEr b ∧ sIo (b.take 64) = sIo b ∧ sWr (b.take 64) = sWr b :=
  ⟨getN_take (a := 0) (wd := 4) (by omega) h, getN_take (a := 4) (wd := 4) (by omega) h, getN_take (a := 8) (wd := 8) (by omega) h, getN_take (a := 16) (wd := 1) (by omega) h, getN_take (a := 17) (wd := 1) (by omega) h, getN_take (a := 18) (wd := 8) (by omega) h⟩

theorem slot_pieces {b : List UInt8} (h : 64 ≤ b.length) (hs : getN b 60 4 = (crcN (b.take 60) : Nat)) (hz : zerosB b 26 60 = true) (h1 : getK b 8 8 = true) (h2 : getK b 18 8 = true) : slotG b = b.take 64 := by
  have k0 := get_piece (getK_small (b := b) (a := 0) (wd := 4) (.inr (.inr rfl)) (by omega))
  have k1 := get_piece (getK_small (b := b) (a := 4) (wd := 4) (.inr (.inr rfl)) (by omega))
  have k2 := get_piece (b := b) (a := 8) (wd := 8) h1
  have k3 := get_piece (getK_small (b := b) (a := 16) (wd := 1) (.inl rfl) (by omega))
  have k4 := get_piece (getK_small (b := b) (a := 17) (wd := 1) (.inl rfl) (by omega))
  have k5 := get_piece (b := b) (a := 18) (wd := 8) h2
  rw [zerosB, decide_eq_true_iff] at hz
  have e26 : b.take 26 = slot26 (sEp b) (sHd b) (sRp b) (sEr b) (sIo b) (sWr b) := by
    rw [show (26 : Nat) = 4 + (4 + (8 + (1 + (1 + 8)))) from rfl, List.take_add, List.take_add (l := b.drop 4), List.drop_drop, List.take_add (l := b.drop (4 + 4)), List.drop_drop, List.take_add (l := b.drop (4 + 4 + 8)), List.drop_drop, List.take_add (l := b.drop (4 + 4 + 8 + 1)), List.drop_drop]
    rw [List.drop_zero] at k0
    simp only [Nat.reduceAdd]
    rw [k0, k1, k2, k3, k4, k5]
    rfl
  have e60 : b.take 60 = fill60 (b.take 26) := by
    rw [fill60, List.length_take, Nat.min_eq_left (by omega), show (60 : Nat) = 26 + 34 from rfl, List.take_add]
    congr 1
  have := sum_right (b := b) (m := 60) h hs
  rw [show 60 + 4 = 64 from rfl, e60, e26] at this
  exact this.symm

theorem sameG_eq {b : List UInt8} (h : openE b = 0) : sameG b = sameD b := by
  obtain ⟨hl, hs⟩ := open_len h
  rw [Bool.eq_iff_iff]
  simp only [sameG, sameD, Bool.and_eq_true, decide_eq_true_iff]
  constructor
  · rintro ⟨hm, he⟩
    have hg := slot_gets hm
    have he' : slotB (sEp b) (sHd b) (sRp b) (sEr b) (sIo b) (sWr b) = b.take 64 := he
    rw [he'] at hg
    refine ⟨?_, ⟨?_, ?_⟩, hm⟩
    · rw [zeros_iff (by omega)]
      intro i i1 i2
      have e1 : (b.take 64)[i]'(by simp; omega) = 0 := by
        have := slotB_form (sEp b) (sHd b) (sRp b) (sEr b) (sIo b) (sWr b)
        rw [he'] at this
        simp only [this]
        rw [List.getElem_append_right (by rw [slot26_length]; omega), List.getElem_append_left (by rw [slot26_length, List.length_replicate]; omega)]
        exact List.getElem_replicate _
      simpa using e1
    · exact (getK_take (b := b) (a := 8) (wd := 8) (m := 64) (by omega) hl).symm.trans hg.2.1
    · exact (getK_take (b := b) (a := 18) (wd := 8) (m := 64) (by omega) hl).symm.trans hg.2.2
  · rintro ⟨hz, ⟨h1, h2⟩, hm⟩
    exact ⟨hm, slot_pieces hl hs hz h1 h2⟩

/-- What is read of bytes. -/
def readE (b : List UInt8) : Int := if openE b = 0 then (if sameG b then 0 else 2) else openE b
theorem readE_slot {ep hd rp er io wr : Int} (h : mayS ep hd rp er io wr = true) : readE (slotB ep hd rp er io wr) = 0 := by
  have hl := slotB_length ep hd rp er io wr
  have hg := (slot_gets h).1
  have ho : openE (slotB ep hd rp er io wr) = 0 := openE_seal (by rw [slot26_length]; omega)
  rw [readE, if_pos ho, if_pos]
  unfold sameG mayG slotG sEp sHd sRp sEr sIo sWr
  rw [hg.1, hg.2.1, hg.2.2.1, hg.2.2.2.1, hg.2.2.2.2.1, hg.2.2.2.2.2, h, List.take_of_length_le (by omega)]
  simp

/-- What is told where nothing is refused. -/
def okI (e v : Int) : Int := if e = 0 then v else 0

/-- Heads. -/
def mayH (n : Int) : Bool := decide (0 ≤ n ∧ n ≤ 1152921504606846976)
theorem mayH_iff {n : Int} : mayH n = true ↔ 0 ≤ n ∧ n ≤ 1152921504606846976 := by rw [mayH, decide_eq_true_iff]
def magicB : List UInt8 := [67, 77, 78, 49, 0, 0, 0, 0]
def headS (n : Int) : List UInt8 := sealB (magicB ++ leB n.toNat 8)
theorem headS_length (n : Int) : (headS n).length = 64 := sealB_length (by simp [magicB, leB_length])
theorem head_get {n : Int} (h : mayH n = true) : getN (headS n) 8 8 = n ∧ getK (headS n) 8 8 = true := by
  have := mayH_iff.1 h
  refine get_mid (bs := headS n) (p := magicB) (q := List.replicate 44 0 ++ leB (crcN (fill60 (magicB ++ leB n.toNat 8))) 4) (n := n) (a := 8) (wd := 8) ?_ rfl (by simp [fitsB]; omega) (by omega)
  rw [headS, sealB, sumB, fill60]
  simp [magicB, leB_length]
def hdN (b : List UInt8) : Int := getN b 8 8
def sameH (b : List UInt8) : Bool := mayH (hdN b) && decide (headS (hdN b) = b.take 64)
theorem sameH_K {b : List UInt8} (hl : 64 ≤ b.length) (h : sameH b = true) : getK b 8 8 = true := by
  simp only [sameH, Bool.and_eq_true, decide_eq_true_iff] at h
  have := (head_get h.1).2
  rw [h.2] at this
  exact (getK_take (b := b) (a := 8) (wd := 8) (m := 64) (by omega) hl).symm.trans this
def readHE (b : List UInt8) : Int := if openE b = 0 then (if sameH b then 0 else 2) else openE b
def readHN (b : List UInt8) : Int := okI (readHE b) (hdN b)
theorem readHE_head {n : Int} (h : mayH n = true) : readHE (headS n) = 0 ∧ hdN (headS n) = n := by
  have hg := (head_get h).1
  have ho : openE (headS n) = 0 := openE_seal (by simp [magicB, leB_length])
  refine ⟨?_, hg⟩
  rw [readHE, if_pos ho, if_pos]
  unfold sameH hdN
  rw [hg, h, List.take_of_length_le (by rw [headS_length]; omega)]
  simp
end Go.Proofs.Ytnbgkkjhmdfmiaa

namespace Go.Proofs.Ytnbgkkjhmdfmiaa

/-- The blocks may be. -/
def blkOK (k s : Int) (bl : List Int) (i : Nat) : Bool :=
  decide (0 ≤ bl.getD i 0 ∧ bl.getD i 0 ≤ 128) && decide (∀ j, j < i → ¬ (bl.getD j 0 ≠ 0 ∧ bl.getD j 0 = bl.getD i 0)) && decide (k = 1 → (bl.getD i 0 ≠ 0 ↔ 64 * (i : Int) < s))
def blksOK (k s : Int) (bl : List Int) : Nat → Bool
  | 0 => true
  | i + 1 => blksOK k s bl i && blkOK k s bl i
/-- The descriptors may be. -/
def opnOK (m : Int) (ol : List Int) (i : Nat) : Bool := decide (0 ≤ ol.getD i 0 ∧ ol.getD i 0 ≤ m)
def opnsOK (m : Int) (ol : List Int) : Nat → Bool
  | 0 => true
  | i + 1 => opnsOK m ol i && opnOK m ol i
theorem blksOK_false {k s : Int} {bl : List Int} {i n : Nat} (h : blkOK k s bl i = false) (hi : i < n) : blksOK k s bl n = false := by
  induction n with
  | zero => omega
  | succ n ih =>
    rw [blksOK]
    by_cases e : i = n
    · subst e; rw [h, Bool.and_false]
    · rw [ih (by omega), Bool.false_and]
theorem opnsOK_false {m : Int} {ol : List Int} {i n : Nat} (h : opnOK m ol i = false) (hi : i < n) : opnsOK m ol n = false := by
  induction n with
  | zero => omega
  | succ n ih =>
    rw [opnsOK]
    by_cases e : i = n
    · subst e; rw [h, Bool.and_false]
    · rw [ih (by omega), Bool.false_and]
theorem blksOK_at {k s : Int} {bl : List Int} {i n : Nat} (h : blksOK k s bl n = true) (hi : i < n) : blkOK k s bl i = true := by
  cases hb : blkOK k s bl i with
  | true => rfl
  | false => rw [blksOK_false hb hi] at h; cases h
theorem opnsOK_at {m : Int} {ol : List Int} {i n : Nat} (h : opnsOK m ol n = true) (hi : i < n) : opnOK m ol i = true := by
  cases hb : opnOK m ol i with
  | true => rfl
  | false => rw [opnsOK_false hb hi] at h; cases h
theorem blkOK_iff {k s : Int} {bl : List Int} {i : Nat} : blkOK k s bl i = true ↔ (0 ≤ bl.getD i 0 ∧ bl.getD i 0 ≤ 128) ∧ (∀ j, j < i → ¬ (bl.getD j 0 ≠ 0 ∧ bl.getD j 0 = bl.getD i 0)) ∧ (k = 1 → (bl.getD i 0 ≠ 0 ↔ 64 * (i : Int) < s)) := by
  simp only [blkOK, Bool.and_eq_true, decide_eq_true_iff, and_assoc]
theorem opnOK_iff {m : Int} {ol : List Int} {i : Nat} : opnOK m ol i = true ↔ 0 ≤ ol.getD i 0 ∧ ol.getD i 0 ≤ m := by simp only [opnOK, decide_eq_true_iff]

/-- An inode that may be. -/
def mayI (k l s : Int) (bl ol : List Int) : Bool :=
  if k = 0 then decide (l = 0 ∧ s = 0 ∧ bl = List.replicate 4 0 ∧ ol = List.replicate 8 0)
  else if k = 1 then decide (0 ≤ l ∧ l ≤ 20) && decide (0 ≤ s ∧ s ≤ 256) && opnsOK 8 ol 8 && blksOK k s bl 4
  else if k = 2 then decide (l = 1) && decide (0 ≤ s ∧ s ≤ 16) && opnsOK 0 ol 8 && blksOK k s bl 4
  else false

/-- What a lawful inode's parts fit. -/
theorem mayI_fits {k l s : Int} {bl ol : List Int} (h : mayI k l s bl ol = true) :
    0 ≤ k ∧ k ≤ 2 ∧ 0 ≤ l ∧ l ≤ 20 ∧ 0 ≤ s ∧ s ≤ 256 ∧ (∀ i, i < 4 → 0 ≤ bl.getD i 0 ∧ bl.getD i 0 ≤ 128) ∧ (∀ i, i < 8 → 0 ≤ ol.getD i 0 ∧ ol.getD i 0 ≤ 8) := by
  unfold mayI at h
  split at h
  · rw [decide_eq_true_iff] at h
    obtain ⟨h1, h2, h3, h4⟩ := h
    refine ⟨by omega, by omega, by omega, by omega, by omega, by omega, ?_, ?_⟩
    · intro i hi
      rw [h3, List.getD_eq_getElem?_getD, List.getElem?_replicate, if_pos hi]; simp
    · intro i hi
      rw [h4, List.getD_eq_getElem?_getD, List.getElem?_replicate, if_pos hi]; simp
  · split at h
    · simp only [Bool.and_eq_true, decide_eq_true_iff] at h
      obtain ⟨⟨⟨h1, h2⟩, h3⟩, h4⟩ := h
      exact ⟨by omega, by omega, by omega, by omega, by omega, by omega, fun i hi => (blkOK_iff.1 (blksOK_at h4 hi)).1, fun i hi => opnOK_iff.1 (opnsOK_at h3 hi)⟩
    · split at h
      · simp only [Bool.and_eq_true, decide_eq_true_iff] at h
        obtain ⟨⟨⟨h1, h2⟩, h3⟩, h4⟩ := h
        refine ⟨by omega, by omega, by omega, by omega, by omega, by omega, fun i hi => (blkOK_iff.1 (blksOK_at h4 hi)).1, fun i hi => ?_⟩
        have := opnOK_iff.1 (opnsOK_at h3 hi)
        omega
      · cases h

/-- Bytes of numbers of one byte each. -/
def ones (l : List Int) : List UInt8 := l.map fun n => UInt8.ofNat (n.toNat % 256)
theorem ones_length (l : List Int) : (ones l).length = l.length := by simp [ones]
/-- An inode's own bytes. -/
def ino16 (k l s : Int) (bl ol : List Int) : List UInt8 := ones [k, l] ++ (leB s.toNat 2 ++ (ones bl ++ ones ol))
theorem ino16_length {k l s : Int} {bl ol : List Int} (hb : bl.length = 4) (ho : ol.length = 8) : (ino16 k l s bl ol).length = 16 := by
  simp [ino16, ones_length, leB_length, hb, ho]
def inoB (k l s : Int) (bl ol : List Int) : List UInt8 := if k = 0 then List.replicate 64 0 else sealB (ino16 k l s bl ol)
theorem inoB_length {k l s : Int} {bl ol : List Int} (hb : bl.length = 4) (ho : ol.length = 8) : (inoB k l s bl ol).length = 64 := by
  unfold inoB
  split
  · simp
  · exact sealB_length (by rw [ino16_length hb ho]; omega)

/-- The numbers of bytes. -/
def by_ (b : List UInt8) (i : Nat) : Int := ((b.getD i 0).toNat : Int)
def iK (b : List UInt8) : Int := by_ b 0
def iL (b : List UInt8) : Int := by_ b 1
def iS (b : List UInt8) : Int := getN b 2 2
def iB (b : List UInt8) : List Int := [by_ b 4, by_ b 5, by_ b 6, by_ b 7]
def iO (b : List UInt8) : List Int := [by_ b 8, by_ b 9, by_ b 10, by_ b 11, by_ b 12, by_ b 13, by_ b 14, by_ b 15]
theorem by_take {b : List UInt8} {i m : Nat} (h : i < m) : by_ (b.take m) i = by_ b i := by
  unfold by_
  rw [List.getD_eq_getElem?_getD, List.getD_eq_getElem?_getD, List.getElem?_take, if_pos h]
theorem by_get {b : List UInt8} {i : Nat} (h : i < b.length) : by_ b i = ((b[i]).toNat : Int) := by
  unfold by_
  rw [List.getD_eq_getElem?_getD, List.getElem?_eq_getElem h]; rfl
theorem by_lt (b : List UInt8) (i : Nat) : 0 ≤ by_ b i ∧ by_ b i < 256 := by
  unfold by_
  have := (b.getD i 0).toNat_lt
  omega
theorem by_byte (b : List UInt8) (i : Nat) : UInt8.ofNat ((by_ b i).toNat % 256) = b.getD i 0 := by
  apply UInt8.toNat_inj.1
  have := (b.getD i 0).toNat_lt
  unfold by_
  simp
theorem iS_take {b : List UInt8} (h : 64 ≤ b.length) : iS (b.take 64) = iS b := getN_take (a := 2) (wd := 2) (by omega) h
theorem parts_take {b : List UInt8} (h : 64 ≤ b.length) : iK (b.take 64) = iK b ∧ iL (b.take 64) = iL b ∧ iS (b.take 64) = iS b ∧ iB (b.take 64) = iB b ∧ iO (b.take 64) = iO b := by
  refine ⟨by_take (by omega), by_take (by omega), iS_take h, ?_, ?_⟩
  · unfold iB; rw [by_take (by omega), by_take (by omega), by_take (by omega), by_take (by omega)]
  · unfold iO; rw [by_take (by omega), by_take (by omega), by_take (by omega), by_take (by omega), by_take (by omega), by_take (by omega), by_take (by omega), by_take (by omega)]

def noneB (b : List UInt8) : Bool := decide (b.take 64 = List.replicate 64 0)
def mayJ (b : List UInt8) : Bool := mayI (iK b) (iL b) (iS b) (iB b) (iO b)
def inoJ (b : List UInt8) : List UInt8 := inoB (iK b) (iL b) (iS b) (iB b) (iO b)
/-- Bytes that are opened are just an inode's. -/
def sameI (b : List UInt8) : Bool := mayJ b && decide (inoJ b = b.take 64)
/-- The document's test. -/
def sameK (b : List UInt8) : Bool := zerosB b 16 60 && (mayJ b && !decide (iK b = 0))

theorem ones_at {l : List Int} {i : Nat} (h : i < l.length) : (ones l)[i]'(by rw [ones_length]; exact h) = UInt8.ofNat ((l[i]).toNat % 256) := by simp [ones]
theorem take16 {b : List UInt8} (h : 64 ≤ b.length) : b.take 16 = ino16 (iK b) (iL b) (iS b) (iB b) (iO b) := by
  have k1 := get_piece (getK_small (b := b) (a := 2) (wd := 2) (.inr (.inl rfl)) (by omega))
  have k1' : (b.drop 2).take 2 = leB (iS b).toNat 2 := k1
  rw [ino16, ← k1']
  apply List.ext_getElem
  · simp [ones_length, iB, iO]; omega
  · intro i h1 h2
    have hi : i < 16 := by simp at h1; omega
    have e : (b.take 16)[i] = b.getD i 0 := by
      rw [List.getElem_take, List.getD_eq_getElem?_getD, List.getElem?_eq_getElem (by omega)]; rfl
    rw [e]
    have : i = 0 ∨ i = 1 ∨ i = 2 ∨ i = 3 ∨ i = 4 ∨ i = 5 ∨ i = 6 ∨ i = 7 ∨ i = 8 ∨ i = 9 ∨ i = 10 ∨ i = 11 ∨ i = 12 ∨ i = 13 ∨ i = 14 ∨ i = 15 := by omega
    have hd : ∀ j, j < 2 → ∀ (q : j < ((b.drop 2).take 2).length), ((b.drop 2).take 2)[j] = b.getD (2 + j) 0 := by
      intro j hj q
      rw [List.getElem_take, List.getElem_drop, List.getD_eq_getElem?_getD, List.getElem?_eq_getElem (by omega)]; rfl
    have hl2 : ((b.drop 2).take 2).length = 2 := by simp; omega
    have q2 := hd 0 (by omega) (by omega)
    have q3 := hd 1 (by omega) (by omega)
    obtain ⟨u, v, huv⟩ : ∃ u v, (b.drop 2).take 2 = [u, v] := by
      match h : (b.drop 2).take 2, hl2 with
      | [u, v], _ => exact ⟨u, v, rfl⟩
    simp only [huv] at q2 q3 ⊢
    simp only [List.getElem_cons_zero, List.getElem_cons_succ] at q2 q3
    rcases this with rfl | rfl | rfl | rfl | rfl | rfl | rfl | rfl | rfl | rfl | rfl | rfl | rfl | rfl | rfl | rfl <;>
      simp [ones, iB, iO, iK, iL, by_byte, q2, q3, -UInt8.ofNat_toNat]

theorem inoB_form {k l s : Int} {bl ol : List Int} (hk : k ≠ 0) (hb : bl.length = 4) (ho : ol.length = 8) : inoB k l s bl ol = ino16 k l s bl ol ++ (List.replicate 44 0 ++ leB (crcN (fill60 (ino16 k l s bl ol))) 4) := by
  rw [inoB, if_neg hk, sealB, sumB, fill60, ino16_length hb ho, List.append_assoc]

theorem ino_pieces {b : List UInt8} (h : 64 ≤ b.length) (hs : getN b 60 4 = (crcN (b.take 60) : Nat)) (hz : zerosB b 16 60 = true) (hk : iK b ≠ 0) : inoJ b = b.take 64 := by
  rw [zerosB, decide_eq_true_iff] at hz
  have e16 := take16 h
  have e60 : b.take 60 = fill60 (b.take 16) := by
    rw [fill60, List.length_take, Nat.min_eq_left (by omega), show (60 : Nat) = 16 + 44 from rfl, List.take_add]
    congr 1
  have := sum_right (b := b) (m := 60) h hs
  rw [show 60 + 4 = 64 from rfl, e60, e16] at this
  rw [inoJ, inoB, if_neg hk]
  exact this.symm

theorem sameI_eq {b : List UInt8} (h : openE b = 0) (hn : noneB b = false) : sameI b = sameK b := by
  obtain ⟨hl, hs⟩ := open_len h
  rw [Bool.eq_iff_iff]
  simp only [sameI, sameK, Bool.and_eq_true, decide_eq_true_iff, Bool.not_eq_true', decide_eq_false_iff_not]
  constructor
  · rintro ⟨hm, he⟩
    have hk : iK b ≠ 0 := by
      intro e
      rw [inoJ, inoB, if_pos e] at he
      rw [noneB, he.symm, decide_eq_false_iff_not] at hn
      exact hn rfl
    refine ⟨?_, hm, hk⟩
    rw [zeros_iff (by omega)]
    intro i i1 i2
    have e1 : (b.take 64)[i]'(by simp; omega) = 0 := by
      have hf := inoB_form (l := iL b) (s := iS b) (bl := iB b) (ol := iO b) hk rfl rfl
      have hf' : b.take 64 = _ := he.symm.trans hf
      simp only [hf']
      rw [List.getElem_append_right (by rw [ino16_length rfl rfl]; omega), List.getElem_append_left (by rw [ino16_length rfl rfl, List.length_replicate]; omega)]
      exact List.getElem_replicate _
    simpa using e1
  · rintro ⟨hz, hm, hk⟩
    exact ⟨hm, ino_pieces hl hs hz hk⟩

/-- What is read of bytes. -/
def readIE (b : List UInt8) : Int := if b.length < 64 then 3 else if noneB b then 0 else if openE b = 0 then (if sameI b then 0 else 2) else openE b
/-- Whether the parts are told. -/
def readIP (b : List UInt8) : Bool := decide (readIE b = 0) && !noneB b

theorem ones_parts {l : List Int} (h : ∀ n ∈ l, 0 ≤ n ∧ n < 256) : (ones l).map (fun u => (u.toNat : Int)) = l := by
  unfold ones
  rw [List.map_map]
  conv => rhs; rw [← List.map_id l]
  apply List.map_congr_left
  intro n hn
  have := h n hn
  simp
  omega

theorem ino_gets {k l s : Int} {b0 b1 b2 b3 o0 o1 o2 o3 o4 o5 o6 o7 : Int} (h : mayI k l s [b0, b1, b2, b3] [o0, o1, o2, o3, o4, o5, o6, o7] = true) (hk : k ≠ 0) :
    iK (inoB k l s [b0, b1, b2, b3] [o0, o1, o2, o3, o4, o5, o6, o7]) = k ∧ iL (inoB k l s [b0, b1, b2, b3] [o0, o1, o2, o3, o4, o5, o6, o7]) = l ∧ iS (inoB k l s [b0, b1, b2, b3] [o0, o1, o2, o3, o4, o5, o6, o7]) = s ∧
    iB (inoB k l s [b0, b1, b2, b3] [o0, o1, o2, o3, o4, o5, o6, o7]) = [b0, b1, b2, b3] ∧ iO (inoB k l s [b0, b1, b2, b3] [o0, o1, o2, o3, o4, o5, o6, o7]) = [o0, o1, o2, o3, o4, o5, o6, o7] := by
  obtain ⟨k0, k1, l0, l1, s0, s1, hb, ho⟩ := mayI_fits h
  have p0 := hb 0 (by omega); have p1 := hb 1 (by omega); have p2 := hb 2 (by omega); have p3 := hb 3 (by omega)
  have q0 := ho 0 (by omega); have q1 := ho 1 (by omega); have q2 := ho 2 (by omega); have q3 := ho 3 (by omega)
  have q4 := ho 4 (by omega); have q5 := ho 5 (by omega); have q6 := ho 6 (by omega); have q7 := ho 7 (by omega)
  simp at p0 p1 p2 p3 q0 q1 q2 q3 q4 q5 q6 q7
  have hf := inoB_form (l := l) (s := s) (bl := [b0, b1, b2, b3]) (ol := [o0, o1, o2, o3, o4, o5, o6, o7]) hk rfl rfl
  have hS := (get_mid (bs := inoB k l s [b0, b1, b2, b3] [o0, o1, o2, o3, o4, o5, o6, o7]) (p := ones [k, l]) (n := s) (a := 2) (wd := 2) (by rw [hf, ino16, List.append_assoc, List.append_assoc]) rfl (by simp [fitsB]; omega) (by omega)).1
  have hl2 : (leB s.toNat 2) = [UInt8.ofNat (s.toNat % 256), UInt8.ofNat (s.toNat / 256 % 256)] := rfl
  rw [ino16, hl2] at hf
  refine ⟨?_, ?_, hS, ?_, ?_⟩
  · unfold iK by_; rw [hf]; simp [ones]; omega
  · unfold iL by_; rw [hf]; simp [ones]; omega
  · unfold iB by_; rw [hf]; simp [ones]; omega
  · unfold iO by_; rw [hf]; simp [ones]; omega

theorem ino_not_none {k l s : Int} {bl ol : List Int} (hk : k ≠ 0) (hk1 : 0 ≤ k) (hk2 : k ≤ 2) (hb : bl.length = 4) (ho : ol.length = 8) : noneB (inoB k l s bl ol) = false := by
  rw [noneB, decide_eq_false_iff_not]
  intro e
  have := congrArg (fun l => l.getD 0 1) e
  rw [inoB_form hk hb ho, ino16] at this
  simp [ones, List.replicate] at this
  have h2 := congrArg UInt8.toNat this
  simp at h2
  omega
theorem readIE_ino {k l s : Int} {b0 b1 b2 b3 o0 o1 o2 o3 o4 o5 o6 o7 : Int} (h : mayI k l s [b0, b1, b2, b3] [o0, o1, o2, o3, o4, o5, o6, o7] = true) : readIE (inoB k l s [b0, b1, b2, b3] [o0, o1, o2, o3, o4, o5, o6, o7]) = 0 := by
  have hl : (inoB k l s [b0, b1, b2, b3] [o0, o1, o2, o3, o4, o5, o6, o7]).length = 64 := inoB_length rfl rfl
  rw [readIE, if_neg (by omega)]
  by_cases hk : k = 0
  · rw [if_pos]
    rw [noneB, inoB, if_pos hk]; decide
  · obtain ⟨k0, k1, -⟩ := mayI_fits h
    rw [ino_not_none hk k0 k1 rfl rfl, if_neg (by simp)]
    have hg := ino_gets h hk
    have ho : openE (inoB k l s [b0, b1, b2, b3] [o0, o1, o2, o3, o4, o5, o6, o7]) = 0 := by rw [inoB, if_neg hk]; exact openE_seal (by rw [ino16_length rfl rfl]; omega)
    rw [if_pos ho, if_pos]
    unfold sameI mayJ inoJ
    rw [hg.1, hg.2.1, hg.2.2.1, hg.2.2.2.1, hg.2.2.2.2, h, List.take_of_length_le (by omega)]
    simp
theorem readIE_turned {k l s : Int} {bl ol : List Int} (hb : bl.length = 4) (ho : ol.length = 8) (hk : k ≠ 0) {i : Nat} (hi : i < (inoB k l s bl ol).length) {x : UInt8} (hx : x ≠ (inoB k l s bl ol)[i])
    (hn : noneB ((inoB k l s bl ol).set i x) = false) : readIE ((inoB k l s bl ol).set i x) = 4 := by
  have hl := inoB_length (k := k) (l := l) (s := s) hb ho
  have e : inoB k l s bl ol = sealB (ino16 k l s bl ol) := by rw [inoB, if_neg hk]
  rw [readIE, if_neg (by rw [List.length_set]; omega), hn, if_neg (by simp)]
  have h4 : openE ((inoB k l s bl ol).set i x) = 4 := by
    simp only [e] at hi hx ⊢
    exact openE_turned (by rw [ino16_length hb ho]; omega) hi hx
  rw [h4]; rfl
end Go.Proofs.Ytnbgkkjhmdfmiaa

namespace Go.Proofs.Ytnbgkkjhmdfmiaa

/-- A record that may be (its data's length alone). -/
def mayR (call inode : Int) (tr : Bool) (off : Int) (n : Nat) : Bool :=
  decide (0 ≤ call ∧ call ≤ 1099511627776 ∧ 1 ≤ inode ∧ inode ≤ 32 ∧ 0 ≤ off ∧ off ≤ 256 ∧ n ≤ 64 ∧ off + n ≤ 256 ∧ (tr = true → n = 0))

theorem mayR_iff {call inode off : Int} {tr : Bool} {n : Nat} : mayR call inode tr off n = true ↔
    0 ≤ call ∧ call ≤ 1099511627776 ∧ 1 ≤ inode ∧ inode ≤ 32 ∧ 0 ≤ off ∧ off ≤ 256 ∧ n ≤ 64 ∧ off + n ≤ 256 ∧ (tr = true → n = 0) := by rw [mayR, decide_eq_true_iff]

/-- Numbers of a width, one behind the other. -/
def putsB (bs : List UInt8) (x : Int) (ns : List Int) : List UInt8 := ns.foldl (fun b n => putB b n x) bs

theorem putsB_take (bs : List UInt8) (x : Int) (ns : List Int) (k : Nat) (h : k < ns.length) : putsB bs x (ns.take (k + 1)) = putB (putsB bs x (ns.take k)) ns[k] x := by
  rw [putsB, List.take_succ_eq_append_getElem h, List.foldl_append]
  rfl

theorem putsB_length (bs : List UInt8) (x : Int) (ns : List Int) : (putsB bs x ns).length ≤ bs.length + 8 * ns.length := by
  induction ns generalizing bs with
  | nil => simp [putsB]
  | cons n ns ih =>
    have h := ih (putB bs n x)
    have h2 := putB_length bs n x
    rw [putsB, List.foldl_cons]
    rw [putsB] at h
    simp only [List.length_cons]
    omega

/-- Numbers that fit, one behind the other. -/
def putsF (bs : List UInt8) (x : Nat) (ns : List Int) : List UInt8 := bs ++ (ns.map fun n => leB n.toNat x).flatten
theorem putsF_take (bs : List UInt8) (x : Nat) (ns : List Int) (k : Nat) (h : k < ns.length) : putsF bs x (ns.take (k + 1)) = putsF bs x (ns.take k) ++ leB ns[k].toNat x := by
  rw [putsF, putsF, List.take_succ_eq_append_getElem h, List.map_append, List.flatten_append, List.append_assoc]
  simp
theorem putsF_length (bs : List UInt8) (x : Nat) (ns : List Int) : (putsF bs x ns).length = bs.length + x * ns.length := by
  unfold putsF
  induction ns with
  | nil => simp
  | cons n ns ih =>
    rw [List.map_cons, List.flatten_cons, List.length_append, List.length_append, leB_length, List.length_cons, Nat.mul_add]
    rw [List.length_append] at ih
    omega

theorem putB_fits {bs : List UInt8} {n x : Int} (h : fitsB n x = true) : putB bs n x = bs ++ leB n.toNat x.toNat := by simp [putB, h]

/-- The 13 bytes ahead of a record's data. -/
def headB (call inode : Int) (tr : Bool) (off : Int) (n : Nat) : List UInt8 :=
  leB call.toNat 8 ++ leB inode.toNat 1 ++ leB (if tr then 1 else 0) 1 ++ leB off.toNat 2 ++ leB n 1

theorem headB_length (call inode : Int) (tr : Bool) (off : Int) (n : Nat) : (headB call inode tr off n).length = 13 := by simp [headB, leB_length]

/-- How many noughts fill bytes up to a multiple of eight. -/
def fillN (n : Nat) : Nat := (8 - n % 8) % 8

/-- A record's bytes. -/
def encB (call inode : Int) (tr : Bool) (off : Int) (s : List UInt8) : List UInt8 :=
  headB call inode tr off s.length ++ s ++ leB (crcN (headB call inode tr off s.length ++ s)) 4 ++ List.replicate (fillN (17 + s.length)) 0

end Go.Proofs.Ytnbgkkjhmdfmiaa

namespace Go.Proofs.Ytnbgkkjhmdfmiaa

def dN (b : List UInt8) : Nat := (b.getD 12 0).toNat
def dCall (b : List UInt8) : Int := getN b 0 8
def dIno (b : List UInt8) : Int := by_ b 8
def dTr (b : List UInt8) : Bool := decide (by_ b 9 = 1)
def dOff (b : List UInt8) : Int := getN b 10 2
def dDat (b : List UInt8) : List UInt8 := (b.drop 13).take (dN b)
def dAll (b : List UInt8) : Nat := 17 + dN b + fillN (17 + dN b)
def mayD (b : List UInt8) : Bool := mayR (dCall b) (dIno b) (dTr b) (dOff b) (dN b)
def encD (b : List UInt8) : List UInt8 := encB (dCall b) (dIno b) (dTr b) (dOff b) (dDat b)
/-- The bytes begin with the record's own. -/
def sameP (b : List UInt8) : Bool := mayD b && decide (dAll b ≤ b.length ∧ b.take (dAll b) = encD b)
/-- The document's test. -/
def sameQ (b : List UInt8) : Bool := (getK b 0 8 && (mayD b && (decide (by_ b 9 ≤ 1) && decide (dAll b ≤ b.length)))) && zerosB b (17 + dN b) (dAll b)

theorem encB_length (call inode : Int) (tr : Bool) (off : Int) (s : List UInt8) : (encB call inode tr off s).length = 17 + s.length + fillN (17 + s.length) := by
  simp [encB, headB_length, leB_length]
  omega
theorem dDat_length {b : List UInt8} (h : 17 + dN b ≤ b.length) : (dDat b).length = dN b := by simp [dDat]; omega
theorem encD_length {b : List UInt8} (h : 17 + dN b ≤ b.length) : (encD b).length = dAll b := by rw [encD, encB_length, dDat_length h]; rfl
theorem dN_lt (b : List UInt8) : dN b < 256 := (b.getD 12 0).toNat_lt
theorem dN_by (b : List UInt8) : by_ b 12 = (dN b : Int) := rfl
theorem leB_one' (n : Nat) : leB n 1 = [UInt8.ofNat (n % 256)] := rfl

theorem fits_off (b : List UInt8) : fitsB (dOff b) 2 = true := by
  cases hk : getK b ((10 : Nat) : Int) ((2 : Nat) : Int) with
  | true => exact (get_range hk).1
  | false =>
    rw [dOff, show getN b 10 2 = getN b ((10 : Nat) : Int) ((2 : Nat) : Int) from rfl, get_no hk]; decide

theorem take13 {b : List UInt8} (h : 17 ≤ b.length) (hk : getK b 0 8 = true) (h9 : by_ b 9 ≤ 1) : b.take 13 = headB (dCall b) (dIno b) (dTr b) (dOff b) (dN b) := by
  have p0 := get_piece (b := b) (a := 0) (wd := 8) hk
  have p1 := get_piece (getK_small (b := b) (a := 10) (wd := 2) (.inr (.inl rfl)) (by omega))
  rw [List.drop_zero] at p0
  have e0 : b.take 8 = leB (dCall b).toNat 8 := p0
  have e1 : (b.drop 10).take 2 = leB (dOff b).toNat 2 := p1
  have one : ∀ i, i < b.length → (b.drop i).take 1 = [b.getD i 0] := by
    intro i hi
    rw [List.drop_eq_getElem_cons hi, List.getD_eq_getElem?_getD, List.getElem?_eq_getElem hi]
    rfl
  have e8 : (b.drop 8).take 1 = leB (dIno b).toNat 1 := by rw [one 8 (by omega), leB_one', dIno, by_byte]
  have e9 : (b.drop 9).take 1 = leB (if dTr b then 1 else 0) 1 := by
    rw [one 9 (by omega), leB_one', dTr]
    unfold by_ at h9 ⊢
    obtain ⟨u, hu⟩ : ∃ u, u = b.getD 9 0 := ⟨_, rfl⟩
    rw [← hu] at h9 ⊢
    have h1 : u.toNat = 0 ∨ u.toNat = 1 := by omega
    have h2 : u = 0 ∨ u = 1 := h1.imp (fun h => UInt8.toNat_inj.1 h) (fun h => UInt8.toNat_inj.1 h)
    rcases h2 with rfl | rfl <;> rfl
  have e12 : (b.drop 12).take 1 = leB (dN b) 1 := by
    rw [one 12 (by omega), leB_one', dN]
    congr 1
    apply UInt8.toNat_inj.1
    have := (b.getD 12 0).toNat_lt
    simp
  rw [headB, ← e0, ← e8, ← e9, ← e1, ← e12]
  rw [show (13 : Nat) = 8 + (1 + (1 + (2 + 1))) from rfl, List.take_add, List.take_add (l := b.drop 8), List.drop_drop, List.take_add (l := b.drop (8 + 1)), List.drop_drop, List.take_add (l := b.drop (8 + 1 + 1)), List.drop_drop]
  simp only [Nat.reduceAdd, List.append_assoc]

theorem enc_gets {call inode off : Int} {tr : Bool} {s q : List UInt8} (h : mayR call inode tr off s.length = true) :
    getN (encB call inode tr off s ++ q) 0 8 = call ∧ getK (encB call inode tr off s ++ q) 0 8 = true ∧ by_ (encB call inode tr off s ++ q) 8 = inode ∧ by_ (encB call inode tr off s ++ q) 9 = (if tr then 1 else 0) ∧ getN (encB call inode tr off s ++ q) 10 2 = off ∧ by_ (encB call inode tr off s ++ q) 12 = (s.length : Int) := by
  obtain ⟨a1, a2, b1, b2, c1, c2, d1, d2, -⟩ := mayR_iff.1 h
  obtain ⟨z, hz⟩ : ∃ z, encB call inode tr off s ++ q = headB call inode tr off s.length ++ z := ⟨_, by rw [encB, List.append_assoc, List.append_assoc, List.append_assoc]⟩
  rw [hz]
  have g0 := get_mid (bs := headB call inode tr off s.length ++ z) (p := []) (q := leB inode.toNat 1 ++ leB (if tr then 1 else 0) 1 ++ leB off.toNat 2 ++ leB s.length 1 ++ z) (n := call) (a := 0) (wd := 8) (by rw [headB]; simp) rfl (by simp [fitsB]; omega) (by omega)
  have g1 := get_mid (bs := headB call inode tr off s.length ++ z) (p := leB call.toNat 8 ++ leB inode.toNat 1 ++ leB (if tr then 1 else 0) 1) (q := leB s.length 1 ++ z) (n := off) (a := 10) (wd := 2) (by rw [headB]; simp) (by simp [leB_length]) (by simp [fitsB]; omega) (by omega)
  have hd : ∀ i u, (headB call inode tr off s.length)[i]? = some u → by_ (headB call inode tr off s.length ++ z) i = (u.toNat : Int) := by
    intro i u hu
    have hi : i < (headB call inode tr off s.length).length := (List.getElem?_eq_some_iff.1 hu).1
    unfold by_
    rw [List.getD_eq_getElem?_getD, List.getElem?_append_left hi, hu]
    rfl
  have l8 := leB_length call.toNat 8
  have l2 := leB_length off.toNat 2
  refine ⟨g0.1, g0.2, ?_, ?_, g1.1, ?_⟩
  · rw [hd 8 (UInt8.ofNat (inode.toNat % 256)) (by rw [headB, List.append_assoc, List.append_assoc, List.append_assoc, List.getElem?_append_right (by omega), l8]; rfl)]
    simp; omega
  · rw [hd 9 (UInt8.ofNat ((if tr then 1 else 0) % 256)) (by rw [headB, List.append_assoc, List.append_assoc, List.append_assoc, List.getElem?_append_right (by omega), l8]; rfl)]
    cases tr <;> rfl
  · rw [hd 12 (UInt8.ofNat (s.length % 256)) (by
      rw [headB, List.getElem?_append_right (by simp [leB_length])]
      simp [leB_length, leB_one'])]
    simp; omega

theorem dec_pieces {b : List UInt8} (h : 17 + dN b ≤ b.length) (hs : getN b ((13 + dN b : Nat) : Int) 4 = (crcN (b.take (13 + dN b)) : Nat)) (hq : sameQ b = true) : b.take (dAll b) = encD b := by
  simp only [sameQ, Bool.and_eq_true, decide_eq_true_iff] at hq
  obtain ⟨⟨hk, hm, h9, hl⟩, hz⟩ := hq
  rw [zerosB, decide_eq_true_iff] at hz
  have e13 := take13 (by omega) hk h9
  have eD : b.take (13 + dN b) = headB (dCall b) (dIno b) (dTr b) (dOff b) (dN b) ++ dDat b := by
    rw [List.take_add, e13]; rfl
  have e17 := sum_right (b := b) (m := 13 + dN b) (by omega) hs
  rw [encD, encB, dDat_length h, ← eD]
  have eA : dAll b = (13 + dN b + 4) + fillN (17 + dN b) := by unfold dAll; omega
  rw [eA, List.take_add, e17, sumB]
  rw [show 13 + dN b + 4 = 17 + dN b by omega]
  rw [show dAll b - (17 + dN b) = fillN (17 + dN b) by unfold dAll; omega] at hz
  rw [hz]

theorem sameP_eq {b : List UInt8} (h : 17 + dN b ≤ b.length) (hs : getN b ((13 + dN b : Nat) : Int) 4 = (crcN (b.take (13 + dN b)) : Nat)) : sameP b = sameQ b := by
  rw [Bool.eq_iff_iff]
  constructor
  · intro hp
    simp only [sameP, Bool.and_eq_true, decide_eq_true_iff] at hp
    obtain ⟨hm, hl, he⟩ := hp
    have hb : b = encD b ++ b.drop (dAll b) := by rw [← he, List.take_append_drop]
    have hg := enc_gets (q := b.drop (dAll b)) (show mayR (dCall b) (dIno b) (dTr b) (dOff b) (dDat b).length = true by rw [dDat_length h]; exact hm)
    rw [show encB (dCall b) (dIno b) (dTr b) (dOff b) (dDat b) ++ b.drop (dAll b) = b from hb.symm] at hg
    simp only [sameQ, Bool.and_eq_true, decide_eq_true_iff]
    refine ⟨⟨hg.2.1, hm, ?_, hl⟩, ?_⟩
    · rw [hg.2.2.2.1]; split <;> omega
    · rw [zerosB, decide_eq_true_iff]
      have e1 : (b.take (dAll b)).drop (17 + dN b) = List.replicate (fillN (17 + dN b)) 0 := by
        rw [he, encD, encB, dDat_length h, List.drop_left' (by simp [headB_length, leB_length, dDat_length h]; omega)]
      rw [List.drop_take] at e1
      rw [show dAll b - (17 + dN b) = fillN (17 + dN b) by unfold dAll; omega] at e1 ⊢
      exact e1
  · intro hq
    have := dec_pieces h hs hq
    simp only [sameQ, Bool.and_eq_true, decide_eq_true_iff] at hq
    simp only [sameP, Bool.and_eq_true, decide_eq_true_iff]
    exact ⟨hq.1.2.1, hq.1.2.2.2, this⟩

/-- What bytes are refused for. -/
def decE (b : List UInt8) : Int := if b.length < 13 then 3 else if b.length < 17 + dN b then 3 else if getN b ((13 + dN b : Nat) : Int) 4 = (crcN (b.take (13 + dN b)) : Nat) then (if sameP b then 0 else 2) else 4
def decL (b : List UInt8) : Nat := if decE b = 0 then dAll b else 0

/-- What is encoded is decoded, whatever stands behind. -/
theorem dec_enc {call inode off : Int} {tr : Bool} {s q : List UInt8} (h : mayR call inode tr off s.length = true) :
    decE (encB call inode tr off s ++ q) = 0 ∧ dCall (encB call inode tr off s ++ q) = call ∧ dIno (encB call inode tr off s ++ q) = inode ∧ dTr (encB call inode tr off s ++ q) = tr ∧ dOff (encB call inode tr off s ++ q) = off ∧ dDat (encB call inode tr off s ++ q) = s ∧ dAll (encB call inode tr off s ++ q) = (encB call inode tr off s).length := by
  obtain ⟨h0, h1, h2, h3, h4, h5⟩ := enc_gets (q := q) h
  have hn : dN (encB call inode tr off s ++ q) = s.length := by have := dN_by (encB call inode tr off s ++ q); omega
  have hlen : (encB call inode tr off s ++ q).length = 17 + s.length + fillN (17 + s.length) + q.length := by rw [List.length_append, encB_length]
  have hd : dDat (encB call inode tr off s ++ q) = s := by
    rw [dDat, hn, encB, List.append_assoc, List.append_assoc, List.append_assoc, List.drop_left' (headB_length ..), List.take_left]
  have ht : dTr (encB call inode tr off s ++ q) = tr := by
    rw [dTr, h3]; cases tr <;> rfl
  have ha : dAll (encB call inode tr off s ++ q) = (encB call inode tr off s).length := by rw [dAll, hn, encB_length]
  have hD : (encB call inode tr off s ++ q).take (13 + s.length) = headB call inode tr off s.length ++ s := by
    rw [encB, List.append_assoc, List.append_assoc, List.take_left' (by simp [headB_length])]
  have hE : encD (encB call inode tr off s ++ q) = encB call inode tr off s := by rw [encD, hd, ht]; unfold dCall dIno dOff; rw [h0, h2, h4]
  have hM : mayD (encB call inode tr off s ++ q) = true := by rw [mayD, ht, hn]; unfold dCall dIno dOff; rw [h0, h2, h4]; exact h
  refine ⟨?_, h0, h2, ht, h4, hd, ha⟩
  rw [decE, if_neg (by omega), hn, if_neg (by omega), hD, if_pos, if_pos]
  · rw [sameP, hM, ha, hE, List.take_left]
    simp
  · have := get_mid (bs := encB call inode tr off s ++ q) (p := headB call inode tr off s.length ++ s) (q := List.replicate (fillN (17 + s.length)) 0 ++ q) (n := ((crcN (headB call inode tr off s.length ++ s) : Nat) : Int)) (a := 13 + s.length) (wd := 4) (by rw [encB]; simp) (by simp [headB_length]) (fits_crc _) (by have := crcN_lt (headB call inode tr off s.length ++ s); omega)
    exact this.1
end Go.Proofs.Ytnbgkkjhmdfmiaa
