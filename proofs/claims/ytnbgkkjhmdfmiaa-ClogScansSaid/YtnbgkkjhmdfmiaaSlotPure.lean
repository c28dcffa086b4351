/- Slots and heads as bytes: plain words. -/
import Derived.Test.YtnbgkkjhmdfmiaaGetPure
namespace Go.Proofs.Ytnbgkkjhmdfmiaa

/-- Bytes filled up to 60 with noughts, and their sum. -/
def fill60 (b : List UInt8) : List UInt8 := b ++ List.replicate (60 - b.length) 0
def sealB (b : List UInt8) : List UInt8 := sumB (fill60 b)
theorem fill60_length {b : List UInt8} (h : b.length ≤ 60) : (fill60 b).length = 60 := by simp [fill60]; omega
theorem sealB_length {b : List UInt8} (h : b.length ≤ 60) : (sealB b).length = 64 := by rw [sealB, sumB_length, fill60_length h]

/-- What bytes are refused for: too short, or of no right sum. -/
def openE (b : List UInt8) : Int := if b.length < 64 then 3 else if getN b 60 4 = (crcN (b.take 60) : Nat) then 0 else 4

theorem openE_seal {b : List UInt8} (h : b.length ≤ 60) : openE (sealB b) = 0 := by
  have hl := fill60_length h
  have h1 := sumB_get' (fill60 b)
  have h2 := sumB_take (fill60 b) []
  rw [hl] at h1 h2
  rw [List.append_nil] at h2
  rw [openE, if_neg (by rw [sealB_length h]; omega), if_pos]
  rw [sealB, h2]
  exact h1
theorem openE_turned {b : List UInt8} (h : b.length ≤ 60) {k : Nat} (hk : k < (sealB b).length) {x : UInt8} (hx : x ≠ (sealB b)[k]) : openE ((sealB b).set k x) = 4 := by
  have hl := fill60_length h
  have h1 := sum_turned (p := fill60 b) hk hx
  rw [hl] at h1
  have h2 : ¬ getN ((sealB b).set k x) 60 4 = (crcN (((sealB b).set k x).take 60) : Nat) := h1
  rw [openE, if_neg (by rw [List.length_set, sealB_length h]; omega), if_neg h2]
theorem open_len {b : List UInt8} (h : openE b = 0) : 64 ≤ b.length ∧ getN b 60 4 = (crcN (b.take 60) : Nat) := by
  unfold openE at h
  split at h
  · omega
  · split at h
    · exact ⟨by omega, by assumption⟩
    · omega

/-- A slot that may be. -/
def mayS (ep hd rp er io wr : Int) : Bool := decide (0 ≤ ep ∧ ep ≤ 1073741824 ∧ 0 ≤ hd ∧ hd ≤ 1024 ∧ 0 ≤ rp ∧ rp ≤ 1099511627776 ∧ 0 ≤ wr ∧ wr ≤ 1099511627776 ∧ 0 ≤ er ∧ er ≤ 255 ∧ 0 ≤ io ∧ io ≤ 32)
theorem mayS_iff {ep hd rp er io wr : Int} : mayS ep hd rp er io wr = true ↔ 0 ≤ ep ∧ ep ≤ 1073741824 ∧ 0 ≤ hd ∧ hd ≤ 1024 ∧ 0 ≤ rp ∧ rp ≤ 1099511627776 ∧ 0 ≤ wr ∧ wr ≤ 1099511627776 ∧ 0 ≤ er ∧ er ≤ 255 ∧ 0 ≤ io ∧ io ≤ 32 := by rw [mayS, decide_eq_true_iff]
/-- A slot's own bytes. -/
def slot26 (ep hd rp er io wr : Int) : List UInt8 := leB ep.toNat 4 ++ (leB hd.toNat 4 ++ (leB rp.toNat 8 ++ (leB er.toNat 1 ++ (leB io.toNat 1 ++ leB wr.toNat 8))))
theorem slot26_length (ep hd rp er io wr : Int) : (slot26 ep hd rp er io wr).length = 26 := by simp [slot26, leB_length]
def slotB (ep hd rp er io wr : Int) : List UInt8 := sealB (slot26 ep hd rp er io wr)
theorem slotB_length (ep hd rp er io wr : Int) : (slotB ep hd rp er io wr).length = 64 := sealB_length (by rw [slot26_length]; omega)
theorem slotB_form (ep hd rp er io wr : Int) : slotB ep hd rp er io wr = slot26 ep hd rp er io wr ++ (List.replicate 34 0 ++ leB (crcN (fill60 (slot26 ep hd rp er io wr))) 4) := by
  rw [slotB, sealB, sumB, fill60, slot26_length, List.append_assoc]
theorem slot_gets {ep hd rp er io wr : Int} (h : mayS ep hd rp er io wr = true) :
    (getN (slotB ep hd rp er io wr) 0 4 = ep ∧ getN (slotB ep hd rp er io wr) 4 4 = hd ∧ getN (slotB ep hd rp er io wr) 8 8 = rp ∧ getN (slotB ep hd rp er io wr) 16 1 = er ∧ getN (slotB ep hd rp er io wr) 17 1 = io ∧ getN (slotB ep hd rp er io wr) 18 8 = wr) ∧ getK (slotB ep hd rp er io wr) 8 8 = true ∧ getK (slotB ep hd rp er io wr) 18 8 = true := by
  obtain ⟨a1, a2, b1, b2, c1, c2, d1, d2, e1, e2, f1, f2⟩ := mayS_iff.1 h
  obtain ⟨z, hz⟩ : ∃ z, z = List.replicate 34 (0 : UInt8) ++ leB (crcN (fill60 (slot26 ep hd rp er io wr))) 4 := ⟨_, rfl⟩
  have hf := slotB_form ep hd rp er io wr
  rw [← hz, slot26] at hf
  have g0 := get_mid (bs := slotB ep hd rp er io wr) (p := []) (q := leB hd.toNat 4 ++ (leB rp.toNat 8 ++ (leB er.toNat 1 ++ (leB io.toNat 1 ++ leB wr.toNat 8))) ++ z) (n := ep) (a := 0) (wd := 4) (by rw [hf]; simp) rfl (by simp [fitsB]; omega) (by omega)
  have g1 := get_mid (bs := slotB ep hd rp er io wr) (p := leB ep.toNat 4) (q := (leB rp.toNat 8 ++ (leB er.toNat 1 ++ (leB io.toNat 1 ++ leB wr.toNat 8))) ++ z) (n := hd) (a := 4) (wd := 4) (by rw [hf]; simp) (by simp [leB_length]) (by simp [fitsB]; omega) (by omega)
  have g2 := get_mid (bs := slotB ep hd rp er io wr) (p := leB ep.toNat 4 ++ leB hd.toNat 4) (q := (leB er.toNat 1 ++ (leB io.toNat 1 ++ leB wr.toNat 8)) ++ z) (n := rp) (a := 8) (wd := 8) (by rw [hf]; simp) (by simp [leB_length]) (by simp [fitsB]; omega) (by omega)
  have g3 := get_mid (bs := slotB ep hd rp er io wr) (p := leB ep.toNat 4 ++ leB hd.toNat 4 ++ leB rp.toNat 8) (q := (leB io.toNat 1 ++ leB wr.toNat 8) ++ z) (n := er) (a := 16) (wd := 1) (by rw [hf]; simp) (by simp [leB_length]) (by simp [fitsB]; omega) (by omega)
  have g4 := get_mid (bs := slotB ep hd rp er io wr) (p := leB ep.toNat 4 ++ leB hd.toNat 4 ++ leB rp.toNat 8 ++ leB er.toNat 1) (q := leB wr.toNat 8 ++ z) (n := io) (a := 17) (wd := 1) (by rw [hf]; simp) (by simp [leB_length]) (by simp [fitsB]; omega) (by omega)
  have g5 := get_mid (bs := slotB ep hd rp er io wr) (p := leB ep.toNat 4 ++ leB hd.toNat 4 ++ leB rp.toNat 8 ++ leB er.toNat 1 ++ leB io.toNat 1) (q := z) (n := wr) (a := 18) (wd := 8) (by rw [hf]; simp) (by simp [leB_length]) (by simp [fitsB]; omega) (by omega)
  exact ⟨⟨g0.1, g1.1, g2.1, g3.1, g4.1, g5.1⟩, g2.2, g5.2⟩

/-- The six numbers of bytes. -/
def sEp (b : List UInt8) : Int := getN b 0 4
def sHd (b : List UInt8) : Int := getN b 4 4
def sRp (b : List UInt8) : Int := getN b 8 8
def sEr (b : List UInt8) : Int := getN b 16 1
def sIo (b : List UInt8) : Int := getN b 17 1
def sWr (b : List UInt8) : Int := getN b 18 8
def mayG (b : List UInt8) : Bool := mayS (sEp b) (sHd b) (sRp b) (sEr b) (sIo b) (sWr b)
def slotG (b : List UInt8) : List UInt8 := slotB (sEp b) (sHd b) (sRp b) (sEr b) (sIo b) (sWr b)
/-- Bytes that are opened are just a slot's. -/
def sameG (b : List UInt8) : Bool := mayG b && decide (slotG b = b.take 64)
/-- The document's test. -/
def sameD (b : List UInt8) : Bool := zerosB b 26 60 && (getK b 8 8 && getK b 18 8 && mayG b)

theorem take_get {b : List UInt8} (h : 64 ≤ b.length) : sEp (b.take 64) = sEp b ∧ sHd (b.take 64) = sHd b ∧ sRp (b.take 64) = sRp b ∧ sEr (b.take 64) = sEr b ∧ sIo (b.take 64) = sIo b ∧ sWr (b.take 64) = sWr b :=
  ⟨getN_take (a := 0) (wd := 4) (by omega) h, getN_take (a := 4) (wd := 4) (by omega) h, getN_take (a := 8) (wd := 8) (by omega) h, getN_take (a := 16) (wd := 1) (by omega) h, getN_take (a := 17) (wd := 1) (by omega) h, getN_take (a := 18) (wd := 8) (by omega) h⟩

theorem slot_pieces {b : List UInt8} (h : 64 ≤ b.length) (hs : getN b 60 4 = (crcN (b.take 60) : Nat)) (hz : zerosB b 26 60 = true) (h1 : getK b 8 8 = true) (h2 : getK b 18 8 = true) : slotG b = b.take 64 := by
  have k0 := get_piece (getK_small (b := b) (a := 0) (wd := 4) (.inr (.inr rfl)) (by omega))
  have k1 := get_piece (getK_small (b := b) (a := 4) (wd := 4) (.inr (.inr rfl)) (by omega))
  have k2 := get_piece (b := b) (a := 8) (wd := 8) h1
  have k3 := get_piece (getK_small (b := b) (a := 16) (wd := 1) (.inl rfl) (by omega))
  have k4 := get_piece (getK_small (b := b) (a := 17) (wd := 1) (.inl rfl) (by omega))
  have k5 := get_piece (b := b) (a := 18) (wd := 8) h2
  rw [zerosB, decide_eq_true_iff] at hz
  have e26 : b.take 26 = slot26 (sEp b) (sHd b) (sRp b) (sEr b) (sIo b) (sWr b) := by
    rw [show (26 : Nat) = 4 + (4 + (8 + (1 + (1 + 8)))) from rfl, List.take_add, List.take_add (l := b.drop 4), List.drop_drop, List.take_add (l := b.drop (4 + 4)), List.drop_drop, List.take_add (l := b.drop (4 + 4 + 8)), List.drop_drop, List.take_add (l := b.drop (4 + 4 + 8 + 1)), List.drop_drop]
    rw [List.drop_zero] at k0
    simp only [Nat.reduceAdd]
    rw [k0, k1, k2, k3, k4, k5]
    rfl
  have e60 : b.take 60 = fill60 (b.take 26) := by
    rw [fill60, List.length_take, Nat.min_eq_left (by omega), show (60 : Nat) = 26 + 34 from rfl, List.take_add]
    congr 1
  have := sum_right (b := b) (m := 60) h hs
  rw [show 60 + 4 = 64 from rfl, e60, e26] at this
  exact this.symm

theorem sameG_eq {b : List UInt8} (h : openE b = 0) : sameG b = sameD b := by
  obtain ⟨hl, hs⟩ := open_len h
  rw [Bool.eq_iff_iff]
  simp only [sameG, sameD, Bool.and_eq_true, decide_eq_true_iff]
  constructor
  · rintro ⟨hm, he⟩
    have hg := slot_gets hm
    have he' : slotB (sEp b) (sHd b) (sRp b) (sEr b) (sIo b) (sWr b) = b.take 64 := he
    rw [he'] at hg
    refine ⟨?_, ⟨?_, ?_⟩, hm⟩
    · rw [zeros_iff (by omega)]
      intro i i1 i2
      have e1 : (b.take 64)[i]'(by simp; omega) = 0 := by
        have := slotB_form (sEp b) (sHd b) (sRp b) (sEr b) (sIo b) (sWr b)
        rw [he'] at this
        simp only [this]
        rw [List.getElem_append_right (by rw [slot26_length]; omega), List.getElem_append_left (by rw [slot26_length, List.length_replicate]; omega)]
        exact List.getElem_replicate _
      simpa using e1
    · exact (getK_take (b := b) (a := 8) (wd := 8) (m := 64) (by omega) hl).symm.trans hg.2.1
    · exact (getK_take (b := b) (a := 18) (wd := 8) (m := 64) (by omega) hl).symm.trans hg.2.2
  · rintro ⟨hz, ⟨h1, h2⟩, hm⟩
    exact ⟨hm, slot_pieces hl hs hz h1 h2⟩

/-- What is read of bytes. -/
def readE (b : List UInt8) : Int := if openE b = 0 then (if sameG b then 0 else 2) else openE b
theorem readE_slot {ep hd rp er io wr : Int} (h : mayS ep hd rp er io wr = true) : readE (slotB ep hd rp er io wr) = 0 := by
  have hl := slotB_length ep hd rp er io wr
  have hg := (slot_gets h).1
  have ho : openE (slotB ep hd rp er io wr) = 0 := openE_seal (by rw [slot26_length]; omega)
  rw [readE, if_pos ho, if_pos]
  unfold sameG mayG slotG sEp sHd sRp sEr sIo sWr
  rw [hg.1, hg.2.1, hg.2.2.1, hg.2.2.2.1, hg.2.2.2.2.1, hg.2.2.2.2.2, h, List.take_of_length_le (by omega)]
  simp

/-- What is told where nothing is refused. -/
def okI (e v : Int) : Int := if e = 0 then v else 0

/-- Heads. -/
def mayH (n : Int) : Bool := decide (0 ≤ n ∧ n ≤ 1152921504606846976)
theorem mayH_iff {n : Int} : mayH n = true ↔ 0 ≤ n ∧ n ≤ 1152921504606846976 := by rw [mayH, decide_eq_true_iff]
def magicB : List UInt8 := [67, 77, 78, 49, 0, 0, 0, 0]
def headS (n : Int) : List UInt8 := sealB (magicB ++ leB n.toNat 8)
theorem headS_length (n : Int) : (headS n).length = 64 := sealB_length (by simp [magicB, leB_length])
theorem head_get {n : Int} (h : mayH n = true) : getN (headS n) 8 8 = n ∧ getK (headS n) 8 8 = true := by
  have := mayH_iff.1 h
  refine get_mid (bs := headS n) (p := magicB) (q := List.replicate 44 0 ++ leB (crcN (fill60 (magicB ++ leB n.toNat 8))) 4) (n := n) (a := 8) (wd := 8) ?_ rfl (by simp [fitsB]; omega) (by omega)
  rw [headS, sealB, sumB, fill60]
  simp [magicB, leB_length]
def hdN (b : List UInt8) : Int := getN b 8 8
def sameH (b : List UInt8) : Bool := mayH (hdN b) && decide (headS (hdN b) = b.take 64)
theorem sameH_K {b : List UInt8} (hl : 64 ≤ b.length) (h : sameH b = true) : getK b 8 8 = true := by
  simp only [sameH, Bool.and_eq_true, decide_eq_true_iff] at h
  have := (head_get h.1).2
  rw [h.2] at this
  exact (getK_take (b := b) (a := 8) (wd := 8) (m := 64) (by omega) hl).symm.trans this
def readHE (b : List UInt8) : Int := if openE b = 0 then (if sameH b then 0 else 2) else openE b
def readHN (b : List UInt8) : Int := okI (readHE b) (hdN b)
theorem readHE_head {n : Int} (h : mayH n = true) : readHE (headS n) = 0 ∧ hdN (headS n) = n := by
  have hg := (head_get h).1
  have ho : openE (headS n) = 0 := openE_seal (by simp [magicB, leB_length])
  refine ⟨?_, hg⟩
  rw [readHE, if_pos ho, if_pos]
  unfold sameH hdN
  rw [hg, h, List.take_of_length_le (by rw [headS_length]; omega)]
  simp
end Go.Proofs.Ytnbgkkjhmdfmiaa
