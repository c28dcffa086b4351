/- A record read out of bytes: plain words. -/
import Derived.Test.YtnbgkkjhmdfmiaaInoPure
import Derived.Test.YtnbgkkjhmdfmiaaRecPure
namespace Go.Proofs.Ytnbgkkjhmdfmiaa

def dN (b : List UInt8) : Nat := (b.getD 12 0).toNat
def dCall (b : List UInt8) : Int := getN b 0 8
def dIno (b : List UInt8) : Int := by_ b 8
def dTr (b : List UInt8) : Bool := decide (by_ b 9 = 1)
def dOff (b : List UInt8) : Int := getN b 10 2
def dDat (b : List UInt8) : List UInt8 := (b.drop 13).take (dN b)
def dAll (b : List UInt8) : Nat := 17 + dN b + fillN (17 + dN b)
def mayD (b : List UInt8) : Bool := mayR (dCall b) (dIno b) (dTr b) (dOff b) (dN b)
def encD (b : List UInt8) : List UInt8 := encB (dCall b) (dIno b) (dTr b) (dOff b) (dDat b)
/-- The bytes begin with the record's own. -/
def sameP (b : List UInt8) : Bool := mayD b && decide (dAll b ≤ b.length ∧ b.take (dAll b) = encD b)
/-- The document's test. -/
def sameQ (b : List UInt8) : Bool := (getK b 0 8 && (mayD b && (decide (by_ b 9 ≤ 1) && decide (dAll b ≤ b.length)))) && zerosB b (17 + dN b) (dAll b)

theorem encB_length (call inode : Int) (tr : Bool) (off : Int) (s : List UInt8) : (encB call inode tr off s).length = 17 + s.length + fillN (17 + s.length) := by
  simp [encB, headB_length, leB_length]
  omega
theorem dDat_length {b : List UInt8} (h : 17 + dN b ≤ b.length) : (dDat b).length = dN b := by simp [dDat]; omega
theorem encD_length {b : List UInt8} (h : 17 + dN b ≤ b.length) : (encD b).length = dAll b := by rw [encD, encB_length, dDat_length h]; rfl
theorem dN_lt (b : List UInt8) : dN b < 256 := (b.getD 12 0).toNat_lt
theorem dN_by (b : List UInt8) : by_ b 12 = (dN b : Int) := rfl
theorem leB_one' (n : Nat) : leB n 1 = [UInt8.ofNat (n % 256)] := rfl

theorem fits_off (b : List UInt8) : fitsB (dOff b) 2 = true := by
  cases hk : getK b ((10 : Nat) : Int) ((2 : Nat) : Int) with
  | true => exact (get_range hk).1
  | false =>
    rw [dOff, show getN b 10 2 = getN b ((10 : Nat) : Int) ((2 : Nat) : Int) from rfl, get_no hk]; decide

theorem take13 {b : List UInt8} (h : 17 ≤ b.length) (hk : getK b 0 8 = true) (h9 : by_ b 9 ≤ 1) : b.take 13 = headB (dCall b) (dIno b) (dTr b) (dOff b) (dN b) := by
  have p0 := get_piece (b := b) (a := 0) (wd := 8) hk
  have p1 := get_piece (getK_small (b := b) (a := 10) (wd := 2) (.inr (.inl rfl)) (by omega))
  rw [List.drop_zero] at p0
  have e0 : b.take 8 = leB (dCall b).toNat 8 := p0
  have e1 : (b.drop 10).take 2 = leB (dOff b).toNat 2 := p1
  have one : ∀ i, i < b.length → (b.drop i).take 1 = [b.getD i 0] := by
    intro i hi
    rw [List.drop_eq_getElem_cons hi, List.getD_eq_getElem?_getD, List.getElem?_eq_getElem hi]
    rfl
  have e8 : (b.drop 8).take 1 = leB (dIno b).toNat 1 := by rw [one 8 (by omega), leB_one', dIno, by_byte]
  have e9 : (b.drop 9).take 1 = leB (if dTr b then 1 else 0) 1 := by
    rw [one 9 (by omega), leB_one', dTr]
    unfold by_ at h9 ⊢
    obtain ⟨u, hu⟩ : ∃ u, u = b.getD 9 0 := ⟨_, rfl⟩
    rw [← hu] at h9 ⊢
    have h1 : u.toNat = 0 ∨ u.toNat = 1 := by omega
    have h2 : u = 0 ∨ u = 1 := h1.imp (fun h => UInt8.toNat_inj.1 h) (fun h => UInt8.toNat_inj.1 h)
    rcases h2 with rfl | rfl <;> rfl
  have e12 : (b.drop 12).take 1 = leB (dN b) 1 := by
    rw [one 12 (by omega), leB_one', dN]
    congr 1
    apply UInt8.toNat_inj.1
    have := (b.getD 12 0).toNat_lt
    simp
  rw [headB, ← e0, ← e8, ← e9, ← e1, ← e12]
  rw [show (13 : Nat) = 8 + (1 + (1 + (2 + 1))) from rfl, List.take_add, List.take_add (l := b.drop 8), List.drop_drop, List.take_add (l := b.drop (8 + 1)), List.drop_drop, List.take_add (l := b.drop (8 + 1 + 1)), List.drop_drop]
  simp only [Nat.reduceAdd, List.append_assoc]

theorem enc_gets {call inode off : Int} {tr : Bool} {s q : List UInt8} (h : mayR call inode tr off s.length = true) :
    getN (encB call inode tr off s ++ q) 0 8 = call ∧ getK (encB call inode tr off s ++ q) 0 8 = true ∧ by_ (encB call inode tr off s ++ q) 8 = inode ∧ by_ (encB call inode tr off s ++ q) 9 = (if tr then 1 else 0) ∧ getN (encB call inode tr off s ++ q) 10 2 = off ∧ by_ (encB call inode tr off s ++ q) 12 = (s.length : Int) := by
  obtain ⟨a1, a2, b1, b2, c1, c2, d1, d2, -⟩ := mayR_iff.1 h
  obtain ⟨z, hz⟩ : ∃ z, encB call inode tr off s ++ q = headB call inode tr off s.length ++ z := ⟨_, by rw [encB, List.append_assoc, List.append_assoc, List.append_assoc]⟩
  rw [hz]
  have g0 := get_mid (bs := headB call inode tr off s.length ++ z) (p := []) (q := leB inode.toNat 1 ++ leB (if tr then 1 else 0) 1 ++ leB off.toNat 2 ++ leB s.length 1 ++ z) (n := call) (a := 0) (wd := 8) (by rw [headB]; simp) rfl (by simp [fitsB]; omega) (by omega)
  have g1 := get_mid (bs := headB call inode tr off s.length ++ z) (p := leB call.toNat 8 ++ leB inode.toNat 1 ++ leB (if tr then 1 else 0) 1) (q := leB s.length 1 ++ z) (n := off) (a := 10) (wd := 2) (by rw [headB]; simp) (by simp [leB_length]) (by simp [fitsB]; omega) (by omega)
  have hd : ∀ i u, (headB call inode tr off s.length)[i]? = some u → by_ (headB call inode tr off s.length ++ z) i = (u.toNat : Int) := by
    intro i u hu
    have hi : i < (headB call inode tr off s.length).length := (List.getElem?_eq_some_iff.1 hu).1
    unfold by_
    rw [List.getD_eq_getElem?_getD, List.getElem?_append_left hi, hu]
    rfl
  have l8 := leB_length call.toNat 8
  have l2 := leB_length off.toNat 2
  refine ⟨g0.1, g0.2, ?_, ?_, g1.1, ?_⟩
  · rw [hd 8 (UInt8.ofNat (inode.toNat % 256)) (by rw [headB, List.append_assoc, List.append_assoc, List.append_assoc, List.getElem?_append_right (by omega), l8]; rfl)]
    simp; omega
  · rw [hd 9 (UInt8.ofNat ((if tr then 1 else 0) % 256)) (by rw [headB, List.append_assoc, List.append_assoc, List.append_assoc, List.getElem?_append_right (by omega), l8]; rfl)]
    cases tr <;> rfl
  · rw [hd 12 (UInt8.ofNat (s.length % 256)) (by
      rw [headB, List.getElem?_append_right (by simp [leB_length])]
      simp [leB_length, leB_one'])]
    simp; omega

theorem dec_pieces {b : List UInt8} (h : 17 + dN b ≤ b.length) (hs : getN b ((13 + dN b : Nat) : Int) 4 = (crcN (b.take (13 + dN b)) : Nat)) (hq : sameQ b = true) : b.take (dAll b) = encD b := by
  simp only [sameQ, Bool.and_eq_true, decide_eq_true_iff] at hq
  obtain ⟨⟨hk, hm, h9, hl⟩, hz⟩ := hq
  rw [zerosB, decide_eq_true_iff] at hz
  have e13 := take13 (by omega) hk h9
  have eD : b.take (13 + dN b) = headB (dCall b) (dIno b) (dTr b) (dOff b) (dN b) ++ dDat b := by
    rw [List.take_add, e13]; rfl
  have e17 := sum_right (b := b) (m := 13 + dN b) (by omega) hs
  rw [encD, encB, dDat_length h, ← eD]
  have eA : dAll b = (13 + dN b + 4) + fillN (17 + dN b) := by unfold dAll; omega
  rw [eA, List.take_add, e17, sumB]
  rw [show 13 + dN b + 4 = 17 + dN b by omega]
  rw [show dAll b - (17 + dN b) = fillN (17 + dN b) by unfold dAll; omega] at hz
  rw [hz]

theorem sameP_eq {b : List UInt8} (h : 17 + dN b ≤ b.length) (hs : getN b ((13 + dN b : Nat) : Int) 4 = (crcN (b.take (13 + dN b)) : Nat)) : sameP b = sameQ b := by
  rw [Bool.eq_iff_iff]
  constructor
  · intro hp
    simp only [sameP, Bool.and_eq_true, decide_eq_true_iff] at hp
    obtain ⟨hm, hl, he⟩ := hp
    have hb : b = encD b ++ b.drop (dAll b) := by rw [← he, List.take_append_drop]
    have hg := enc_gets (q := b.drop (dAll b)) (show mayR (dCall b) (dIno b) (dTr b) (dOff b) (dDat b).length = true by rw [dDat_length h]; exact hm)
    rw [show encB (dCall b) (dIno b) (dTr b) (dOff b) (dDat b) ++ b.drop (dAll b) = b from hb.symm] at hg
    simp only [sameQ, Bool.and_eq_true, decide_eq_true_iff]
    refine ⟨⟨hg.2.1, hm, ?_, hl⟩, ?_⟩
    · rw [hg.2.2.2.1]; split <;> omega
    · rw [zerosB, decide_eq_true_iff]
      have e1 : (b.take (dAll b)).drop (17 + dN b) = List.replicate (fillN (17 + dN b)) 0 := by
        rw [he, encD, encB, dDat_length h, List.drop_left' (by simp [headB_length, leB_length, dDat_length h]; omega)]
      rw [List.drop_take] at e1
      rw [show dAll b - (17 + dN b) = fillN (17 + dN b) by unfold dAll; omega] at e1 ⊢
      exact e1
  · intro hq
    have := dec_pieces h hs hq
    simp only [sameQ, Bool.and_eq_true, decide_eq_true_iff] at hq
    simp only [sameP, Bool.and_eq_true, decide_eq_true_iff]
    exact ⟨hq.1.2.1, hq.1.2.2.2, this⟩

/-- What bytes are refused for. -/
def decE (b : List UInt8) : Int := if b.length < 13 then 3 else if b.length < 17 + dN b then 3 else if getN b ((13 + dN b : Nat) : Int) 4 = (crcN (b.take (13 + dN b)) : Nat) then (if sameP b then 0 else 2) else 4
def decL (b : List UInt8) : Nat := if decE b = 0 then dAll b else 0

/-- What is encoded is decoded, whatever stands behind. -/
theorem dec_enc {call inode off : Int} {tr : Bool} {s q : List UInt8} (h : mayR call inode tr off s.length = true) :
    decE (encB call inode tr off s ++ q) = 0 ∧ dCall (encB call inode tr off s ++ q) = call ∧ dIno (encB call inode tr off s ++ q) = inode ∧ dTr (encB call inode tr off s ++ q) = tr ∧ dOff (encB call inode tr off s ++ q) = off ∧ dDat (encB call inode tr off s ++ q) = s ∧ dAll (encB call inode tr off s ++ q) = (encB call inode tr off s).length := by
  obtain ⟨h0, h1, h2, h3, h4, h5⟩ := enc_gets (q := q) h
  have hn : dN (encB call inode tr off s ++ q) = s.length := by have := dN_by (encB call inode tr off s ++ q); omega
  have hlen : (encB call inode tr off s ++ q).length = 17 + s.length + fillN (17 + s.length) + q.length := by rw [List.length_append, encB_length]
  have hd : dDat (encB call inode tr off s ++ q) = s := by
    rw [dDat, hn, encB, List.append_assoc, List.append_assoc, List.append_assoc, List.drop_left' (headB_length ..), List.take_left]
  have ht : dTr (encB call inode tr off s ++ q) = tr := by
    rw [dTr, h3]; cases tr <;> rfl
  have ha : dAll (encB call inode tr off s ++ q) = (encB call inode tr off s).length := by rw [dAll, hn, encB_length]
  have hD : (encB call inode tr off s ++ q).take (13 + s.length) = headB call inode tr off s.length ++ s := by
    rw [encB, List.append_assoc, List.append_assoc, List.take_left' (by simp [headB_length])]
  have hE : encD (encB call inode tr off s ++ q) = encB call inode tr off s := by rw [encD, hd, ht]; unfold dCall dIno dOff; rw [h0, h2, h4]
  have hM : mayD (encB call inode tr off s ++ q) = true := by rw [mayD, ht, hn]; unfold dCall dIno dOff; rw [h0, h2, h4]; exact h
  refine ⟨?_, h0, h2, ht, h4, hd, ha⟩
  rw [decE, if_neg (by omega), hn, if_neg (by omega), hD, if_pos, if_pos]
  · rw [sameP, hM, ha, hE, List.take_left]
    simp
  · have := get_mid (bs := encB call inode tr off s ++ q) (p := headB call inode tr off s.length ++ s) (q := List.replicate (fillN (17 + s.length)) 0 ++ q) (n := ((crcN (headB call inode tr off s.length ++ s) : Nat) : Int)) (a := 13 + s.length) (wd := 4) (by rw [encB]; simp) (by simp [headB_length]) (fits_crc _) (by have := crcN_lt (headB call inode tr off s.length ++ s); omega)
    exact this.1
end Go.Proofs.Ytnbgkkjhmdfmiaa
