/- Patches as bytes, and the records of a log: plain words. Words of our own for memory: slices that read as lists, rows of the call's own, and what is kept over steps. Stores into a row of bytes of the call's own. Steps over slices of bytes and rows, in words that last from call to call (the part that asks for no function of the program). No statement of the seat is proved here. -/
import Derived.Test.YtncjfljmnkfghaaZ01
import Derived.Test.YtncjfljmnkfghaaRows
import Derived.WalkKit
import Derived.WalkSpells
import Derived.WalkLawsBesides
import Derived.Lib.Hide
import Derived.Deep.QuietTactic
import Derived.BigQuiet
import Derived.Deep.LoopGhost
import Derived.Deep.AppendLies
import Derived.Maps.AppendAt
import Derived.Deep.Onto
namespace Go.Proofs.Ytncjfljmnkfghaa

structure PT where
  pos : Int
  dat : ByteArray
def PT.txt (p : PT) : List UInt8 := p.dat.data.toList
theorem PT.txt_length (p : PT) : p.txt.length = p.dat.size := by unfold PT.txt; rw [Array.length_toList]; rfl
theorem PT.ext_txt {p q : PT} (h1 : p.pos = q.pos) (h2 : p.txt = q.txt) : p = q := by
  obtain ⟨a, ⟨⟨x⟩⟩⟩ := p
  obtain ⟨b, ⟨⟨y⟩⟩⟩ := q
  simp only [PT.txt] at h1 h2
  subst h1 h2
  rfl
def PT.enc (p : PT) : List UInt8 := leB p.pos.toNat 4 ++ (leB p.dat.size 2 ++ p.txt)
theorem PT.enc_length (p : PT) : p.enc.length = 6 + p.dat.size := by simp [PT.enc, leB_length, PT.txt_length]; omega
def PT.may (p : PT) : Bool := fitsB p.pos 4 && decide (p.dat.size ≤ 256)
theorem PT.may_iff {p : PT} : p.may = true ↔ fitsB p.pos 4 = true ∧ p.dat.size ≤ 256 := by simp [PT.may]
def encF (L : List PT) : List UInt8 := L.flatMap PT.enc
theorem encF_append (a b : List PT) : encF (a ++ b) = encF a ++ encF b := by simp [encF]
theorem encF_cons (a : PT) (b : List PT) : encF (a :: b) = a.enc ++ encF b := rfl
theorem encF_length {L : List PT} (h : L.all PT.may = true) : (encF L).length ≤ 262 * L.length := by
  induction L with
  | nil => simp [encF]
  | cons p L ih =>
    simp only [List.all_cons, Bool.and_eq_true] at h
    have h1 := (PT.may_iff.1 h.1).2
    have h2 := ih h.2
    rw [encF_cons, List.length_append, PT.enc_length, List.length_cons]
    omega
def bodyP (L : List PT) : List UInt8 := leB L.length 2 ++ encF L
def mayP (L : List PT) : Bool := decide (L.length ≤ 64) && L.all PT.may
theorem mayP_iff {L : List PT} : mayP L = true ↔ L.length ≤ 64 ∧ L.all PT.may = true := by simp [mayP]
def encP (L : List PT) : List UInt8 := sumB (bodyP L) ++ List.replicate (fillN (sumB (bodyP L)).length) 0
theorem bodyP_length {L : List PT} : (bodyP L).length = 2 + (encF L).length := by simp [bodyP, leB_length]
theorem encP_length {L : List PT} : (encP L).length = 6 + (encF L).length + fillN (6 + (encF L).length) := by
  have h : (sumB (bodyP L)).length = 6 + (encF L).length := by rw [sumB_length, bodyP_length]; omega
  rw [encP, List.length_append, List.length_replicate, h]
theorem encP_mod (L : List PT) : (encP L).length % 8 = 0 ∧ 8 ≤ (encP L).length := by
  rw [encP_length]; unfold fillN; omega
theorem encP_le {L : List PT} (h : mayP L = true) : (encP L).length ≤ 20000 := by
  obtain ⟨h1, h2⟩ := mayP_iff.1 h
  have := encF_length h2
  rw [encP_length]; unfold fillN; omega

/-! ### reading -/
def ptK (b : List UInt8) (a : Nat) : Nat := (getN b ((a + 4 : Nat) : Int) 2).toNat
def ptAt (b : List UInt8) (a : Nat) : PT := ⟨getN b (a : Int) 4, ⟨((b.drop (a + 6)).take (ptK b a)).toArray⟩⟩
theorem ptAt_txt (b : List UInt8) (a : Nat) : (ptAt b a).txt = (b.drop (a + 6)).take (ptK b a) := rfl
theorem ptAt_size {b : List UInt8} {a : Nat} (h : a + 6 + ptK b a ≤ b.length) : (ptAt b a).dat.size = ptK b a := by
  rw [← PT.txt_length, ptAt_txt, List.length_take, List.length_drop]; omega
def rdE (b : List UInt8) : Nat → Nat → Int
  | 0, _ => 0
  | i + 1, a => if b.length < a + 6 then 3 else if 256 < ptK b a then 2 else if b.length < a + 6 + ptK b a then 3 else rdE b i (a + 6 + ptK b a)
def rdZ (b : List UInt8) : Nat → Nat → Nat
  | 0, a => a
  | i + 1, a => rdZ b i (a + 6 + ptK b a)
def rdL (b : List UInt8) : Nat → Nat → List PT
  | 0, _ => []
  | i + 1, a => ptAt b a :: rdL b i (a + 6 + ptK b a)
theorem rdL_length (b : List UInt8) : ∀ i a, (rdL b i a).length = i
  | 0, _ => rfl
  | i + 1, a => by rw [rdL, List.length_cons, rdL_length]
theorem rdE_step {b : List UInt8} {i a : Nat} (h1 : a + 6 + ptK b a ≤ b.length) (h2 : ptK b a ≤ 256) : rdE b (i + 1) a = rdE b i (a + 6 + ptK b a) := by
  rw [rdE, if_neg (by omega), if_neg (by omega), if_neg (by omega)]
theorem rdE_zero {b : List UInt8} {i a : Nat} (h : rdE b (i + 1) a = 0) : a + 6 + ptK b a ≤ b.length ∧ ptK b a ≤ 256 ∧ rdE b i (a + 6 + ptK b a) = 0 := by
  rw [rdE] at h
  split at h
  · simp at h
  split at h
  · simp at h
  split at h
  · simp at h
  exact ⟨by omega, by omega, h⟩

theorem ptAt_may {b : List UInt8} {a : Nat} (h1 : a + 6 + ptK b a ≤ b.length) (h2 : ptK b a ≤ 256) : (ptAt b a).may = true := by
  refine PT.may_iff.2 ⟨?_, by rw [ptAt_size h1]; exact h2⟩
  exact (get_range (getK_small (b := b) (a := a) (wd := 4) (.inr (.inr rfl)) (by omega))).1
theorem ptAt_enc {b : List UInt8} {a : Nat} (h1 : a + 6 + ptK b a ≤ b.length) : (ptAt b a).enc = (b.drop a).take (6 + ptK b a) := by
  have p1 := get_piece (getK_small (b := b) (a := a) (wd := 4) (.inr (.inr rfl)) (by omega))
  have p2 := get_piece (getK_small (b := b) (a := a + 4) (wd := 2) (.inr (.inl rfl)) (by omega))
  rw [PT.enc, ptAt_size h1, ptAt_txt, show 6 + ptK b a = 4 + (2 + ptK b a) by omega, List.take_add, List.drop_drop, List.take_add (l := b.drop (a + 4)), List.drop_drop, p1, p2]
  rfl

theorem rd_can {b : List UInt8} : ∀ (i a : Nat), rdE b i a = 0 → a ≤ b.length → (rdL b i a).all PT.may = true ∧ a ≤ rdZ b i a ∧ rdZ b i a ≤ b.length ∧ (b.drop a).take (rdZ b i a - a) = encF (rdL b i a)
  | 0, a, _, ha => by simp [rdL, rdZ, encF, ha]
  | i + 1, a, h, ha => by
    obtain ⟨h1, h2, h3⟩ := rdE_zero h
    obtain ⟨q1, q2, q3, q4⟩ := rd_can i _ h3 h1
    rw [rdL, rdZ]
    refine ⟨?_, by omega, q3, ?_⟩
    · rw [List.all_cons, ptAt_may h1 h2, q1]; rfl
    · rw [encF_cons, ptAt_enc h1, ← q4, show rdZ b i (a + 6 + ptK b a) - a = (6 + ptK b a) + (rdZ b i (a + 6 + ptK b a) - (a + 6 + ptK b a)) by omega, List.take_add, List.drop_drop, show a + (6 + ptK b a) = a + 6 + ptK b a by omega]

theorem enc_at {b p q : List UInt8} {x : PT} (hb : b = p ++ (x.enc ++ q)) (hx : x.may = true) : ptK b p.length = x.dat.size ∧ ptAt b p.length = x := by
  obtain ⟨h1, h2⟩ := PT.may_iff.1 hx
  have h0 := fits_nat h1
  have hf : x.pos ≤ 9223372036854775807 := by
    simp only [fitsB, decide_eq_true_eq] at h1; omega
  have g1 := get_mid (bs := b) (p := p) (q := leB x.dat.size 2 ++ x.txt ++ q) (n := x.pos) (a := p.length) (wd := 4) (by rw [hb, PT.enc]; simp) rfl h1 hf
  have g2 := get_mid (bs := b) (p := p ++ leB x.pos.toNat 4) (q := x.txt ++ q) (n := (x.dat.size : Int)) (a := p.length + 4) (wd := 2) (by rw [hb, PT.enc]; simp) (by simp [leB_length]) (by simp [fitsB]; omega) (by omega)
  have hk : ptK b p.length = x.dat.size := by rw [ptK, show ((2 : Int)) = ((2 : Nat) : Int) from rfl, g2.1]; omega
  refine ⟨hk, PT.ext_txt g1.1 ?_⟩
  rw [ptAt_txt, hk, hb, PT.enc, show p.length + 6 = p.length + 6 from rfl]
  rw [show p ++ (leB x.pos.toNat 4 ++ (leB x.dat.size 2 ++ x.txt) ++ q) = (p ++ leB x.pos.toNat 4 ++ leB x.dat.size 2) ++ (x.txt ++ q) by simp, List.drop_left' (by simp [leB_length]), List.take_left' (PT.txt_length x)]

theorem rd_enc : ∀ (L : List PT) (p q : List UInt8), L.all PT.may = true → rdE (p ++ (encF L ++ q)) L.length p.length = 0 ∧ rdL (p ++ (encF L ++ q)) L.length p.length = L ∧ rdZ (p ++ (encF L ++ q)) L.length p.length = p.length + (encF L).length
  | [], p, q, _ => by simp [rdE, rdL, rdZ, encF]
  | x :: L, p, q, h => by
    simp only [List.all_cons, Bool.and_eq_true] at h
    have hb : p ++ (encF (x :: L) ++ q) = p ++ (x.enc ++ (encF L ++ q)) := by rw [encF_cons, List.append_assoc]
    have hb2 : p ++ (encF (x :: L) ++ q) = (p ++ x.enc) ++ (encF L ++ q) := by rw [hb]; simp
    obtain ⟨e1, e2⟩ := enc_at hb h.1
    obtain ⟨q1, q2, q3⟩ := rd_enc L (p ++ x.enc) q h.2
    have hl : (p ++ x.enc).length = p.length + 6 + x.dat.size := by rw [List.length_append, PT.enc_length]; omega
    have hle : p.length + 6 + ptK (p ++ (encF (x :: L) ++ q)) p.length ≤ (p ++ (encF (x :: L) ++ q)).length := by
      rw [e1, hb2, List.length_append, hl]; omega
    rw [← hb2, hl] at q1 q2 q3
    refine ⟨?_, ?_, ?_⟩
    · rw [List.length_cons, rdE_step hle (by rw [e1]; exact (PT.may_iff.1 h.1).2), e1, q1]
    · rw [List.length_cons, rdL, e1, e2, q2]
    · rw [List.length_cons, rdZ, e1, q3, encF_cons, List.length_append, PT.enc_length]; omega

/-! ### a record -/
def dpN (b : List UInt8) : Nat := (getN b 0 2).toNat
def dpZ (b : List UInt8) : Nat := rdZ b (dpN b) 2
def dpF (b : List UInt8) : Nat := dpZ b + 4 + fillN (dpZ b + 4)
def dpE (b : List UInt8) : Int :=
  if b.length < 2 then 3 else if 64 < dpN b then 2 else if rdE b (dpN b) 2 ≠ 0 then rdE b (dpN b) 2 else if b.length < dpZ b + 4 then 3
  else if getN b (dpZ b : Int) 4 ≠ (crcN (b.take (dpZ b)) : Nat) then 4 else if b.length < dpF b then 3 else if zerosB b (dpZ b + 4) (dpF b) = true then 0 else 2
def dpL (b : List UInt8) : List PT := if dpE b = 0 then rdL b (dpN b) 2 else []
def dpU (b : List UInt8) : Nat := if dpE b = 0 then dpF b else 0
theorem dpN_lt (b : List UInt8) : dpN b < 65536 := by
  have := get_lt (b := b) (a := 0) (wd := 2) (.inr (.inl rfl))
  have h := (get_any b 0 2).1
  unfold dpN
  have h3 : getN b ((0 : Nat) : Int) ((2 : Nat) : Int) = getN b 0 2 := rfl
  rw [h3] at this
  omega
theorem ptK_lt (b : List UInt8) (a : Nat) : ptK b a < 65536 := by
  have := get_lt (b := b) (a := a + 4) (wd := 2) (.inr (.inl rfl))
  have h := (get_any b ((a + 4 : Nat) : Int) 2).1
  unfold ptK
  have h3 : getN b ((a + 4 : Nat) : Int) ((2 : Nat) : Int) = getN b ((a + 4 : Nat) : Int) 2 := rfl
  rw [h3] at this
  omega

theorem dp_zero {b : List UInt8} (h : dpE b = 0) : 2 ≤ b.length ∧ dpN b ≤ 64 ∧ rdE b (dpN b) 2 = 0 ∧ dpZ b + 4 ≤ b.length ∧ getN b (dpZ b : Int) 4 = (crcN (b.take (dpZ b)) : Nat) ∧ dpF b ≤ b.length ∧ zerosB b (dpZ b + 4) (dpF b) = true := by
  rw [dpE] at h
  split at h
  · simp at h
  split at h
  · simp at h
  split at h
  · rename_i q; exact absurd h q
  split at h
  · simp at h
  split at h
  · simp at h
  split at h
  · simp at h
  split at h
  · rename_i a1 a2 a3 a4 a5 a6 a7
    exact ⟨by omega, by omega, Decidable.byContradiction a3, by omega, Decidable.byContradiction a5, by omega, a7⟩
  · simp at h

/-- Bytes that are a record are just the bytes of its patches. -/
theorem dp_can {b : List UInt8} (h : dpE b = 0) : mayP (dpL b) = true ∧ b.take (dpU b) = encP (dpL b) ∧ dpU b = (encP (dpL b)).length ∧ dpU b ≤ b.length := by
  obtain ⟨h1, h2, h3, h4, h5, h6, h7⟩ := dp_zero h
  obtain ⟨q1, q2, q3, q4⟩ := rd_can (dpN b) 2 h3 h1
  have hL : dpL b = rdL b (dpN b) 2 := by rw [dpL, if_pos h]
  have hU : dpU b = dpF b := by rw [dpU, if_pos h]
  have hlen : (dpL b).length = dpN b := by rw [hL, rdL_length]
  have hz : b.take (dpZ b) = bodyP (dpL b) := by
    have p := get_piece (getK_small (b := b) (a := 0) (wd := 2) (.inr (.inl rfl)) (by omega))
    rw [bodyP, hlen, hL, ← q4, show dpZ b = 2 + (rdZ b (dpN b) 2 - 2) by unfold dpZ; omega, List.take_add]
    rw [List.drop_zero] at p
    rw [p]
    rfl
  have hs := sum_right h4 h5
  have hlz : (bodyP (dpL b)).length = dpZ b := by rw [← hz, List.length_take]; omega
  have hls : (sumB (bodyP (dpL b))).length = dpZ b + 4 := by rw [sumB_length, hlz]
  have e : b.take (dpU b) = encP (dpL b) := by
    rw [hU, dpF, List.take_add, hs, hz, encP, hls]
    congr 1
    have := h7
    rw [zerosB, decide_eq_true_iff, dpF, show dpZ b + 4 + fillN (dpZ b + 4) - (dpZ b + 4) = fillN (dpZ b + 4) by omega] at this
    exact this
  refine ⟨mayP_iff.2 ⟨by omega, by rw [hL]; exact q1⟩, e, ?_, by rw [hU]; exact h6⟩
  rw [← e, List.length_take, hU]
  omega

/-- What is encoded is decoded, whatever stands behind. -/
theorem dp_enc {L : List PT} (h : mayP L = true) (q : List UInt8) : dpE (encP L ++ q) = 0 ∧ dpL (encP L ++ q) = L ∧ dpU (encP L ++ q) = (encP L).length := by
  obtain ⟨h1, h2⟩ := mayP_iff.1 h
  obtain ⟨R, hR⟩ : ∃ R, R = List.replicate (fillN (sumB (bodyP L)).length) (0 : UInt8) ++ q := ⟨_, rfl⟩
  have hb : encP L ++ q = leB L.length 2 ++ (encF L ++ (leB (crcN (bodyP L)) 4 ++ R)) := by rw [hR, encP, sumB, bodyP]; simp
  have hb2 : encP L ++ q = sumB (bodyP L) ++ R := by rw [hR, encP]; simp
  obtain ⟨b, hbb⟩ : ∃ b, b = encP L ++ q := ⟨_, rfl⟩
  rw [← hbb] at hb hb2 ⊢
  have g0 := get_mid (bs := b) (p := []) (q := encF L ++ (leB (crcN (bodyP L)) 4 ++ R)) (n := (L.length : Int)) (a := 0) (wd := 2) (by rw [hb]; simp) rfl (by simp [fitsB]; omega) (by omega)
  have hn : dpN b = L.length := by
    unfold dpN
    rw [show getN b 0 2 = getN b ((0 : Nat) : Int) ((2 : Nat) : Int) from rfl, g0.1]
    omega
  obtain ⟨r1, r2, r3⟩ := rd_enc L (leB L.length 2) (leB (crcN (bodyP L)) 4 ++ R) h2
  rw [← hb, leB_length] at r1 r2 r3
  have hlz : (bodyP L).length = 2 + (encF L).length := bodyP_length
  have hz : dpZ b = (bodyP L).length := by rw [dpZ, hn, r3, hlz]
  have hls : (sumB (bodyP L)).length = (bodyP L).length + 4 := sumB_length _
  have hF : dpF b = (encP L).length := by rw [dpF, hz, encP, List.length_append, List.length_replicate, hls]
  have hlen : b.length = (encP L).length + q.length := by rw [hbb, List.length_append]
  have hFb : dpF b ≤ b.length := by rw [hF, hlen]; omega
  have hFz : dpZ b + 4 ≤ dpF b := by unfold dpF; omega
  have hL0 : 8 ≤ (encP L).length := (encP_mod L).2
  have hsum : getN b (dpZ b : Int) 4 = (crcN (b.take (dpZ b)) : Nat) := by
    rw [hz, hb2, sumB_take]; exact sumB_get _ _
  have hzero : zerosB b (dpZ b + 4) (dpF b) = true := by
    rw [zerosB, decide_eq_true_iff, show dpF b - (dpZ b + 4) = fillN (sumB (bodyP L)).length by rw [hls, ← hz]; unfold dpF; omega, hz, hb2, List.drop_left' hls, hR, List.take_left' (by simp)]
  have hE : dpE b = 0 := by
    rw [dpE, if_neg (by omega), if_neg (by omega), if_neg (by rw [hn, r1]; simp), if_neg (by omega), if_neg (by rw [hsum]; simp), if_neg (by omega), if_pos hzero]
  exact ⟨hE, by rw [dpL, if_pos hE, hn, r2], by rw [dpU, if_pos hE, hF]⟩

theorem dpU_pos {b : List UInt8} (h : dpE b = 0) : 8 ≤ dpU b ∧ dpU b ≤ b.length ∧ dpU b % 8 = 0 := by
  obtain ⟨h1, h2, h3, h4⟩ := dp_can h
  have := encP_mod (dpL b)
  omega

/-! ### the records of a log -/
def goP (b : List UInt8) : Prop := dpE b = 0
instance (b : List UInt8) : Decidable (goP b) := by unfold goP; infer_instance
def rcL (b : List UInt8) : List (List PT) := if _h : goP b then dpL b :: rcL (b.drop (dpU b)) else []
termination_by b.length
decreasing_by have := dpU_pos _h; rw [List.length_drop]; omega
def rcU (b : List UInt8) : Nat := if _h : goP b then dpU b + rcU (b.drop (dpU b)) else 0
termination_by b.length
decreasing_by have := dpU_pos _h; rw [List.length_drop]; omega
theorem rcL_go {b : List UInt8} (h : dpE b = 0) : rcL b = dpL b :: rcL (b.drop (dpU b)) := by rw [rcL, dif_pos (show goP b from h)]
theorem rcU_go {b : List UInt8} (h : dpE b = 0) : rcU b = dpU b + rcU (b.drop (dpU b)) := by rw [rcU, dif_pos (show goP b from h)]
theorem rcL_end {b : List UInt8} (h : dpE b ≠ 0) : rcL b = [] := by rw [rcL, dif_neg (show ¬ goP b from h)]
theorem rcU_end {b : List UInt8} (h : dpE b ≠ 0) : rcU b = 0 := by rw [rcU, dif_neg (show ¬ goP b from h)]
theorem dpE_nil : dpE [] = 3 := rfl
theorem rcU_le : ∀ (n : Nat) (b : List UInt8), b.length ≤ n → rcU b ≤ b.length ∧ rcU b % 8 = 0
  | n, b, hn => by
    by_cases h : dpE b = 0
    · have h1 := dpU_pos h
      rw [rcU_go h]
      match n with
      | 0 => omega
      | n + 1 =>
        have := rcU_le n (b.drop (dpU b)) (by rw [List.length_drop]; omega)
        rw [List.length_drop] at this
        omega
    · rw [rcU_end h]; simp
theorem rcU_bound (b : List UInt8) : rcU b ≤ b.length ∧ rcU b % 8 = 0 := rcU_le _ b (Nat.le_refl _)
theorem rcL_len : ∀ (n : Nat) (b : List UInt8), b.length ≤ n → 8 * (rcL b).length ≤ b.length
  | n, b, hn => by
    by_cases h : dpE b = 0
    · have h1 := dpU_pos h
      rw [rcL_go h, List.length_cons]
      match n with
      | 0 => omega
      | n + 1 =>
        have := rcL_len n (b.drop (dpU b)) (by rw [List.length_drop]; omega)
        rw [List.length_drop] at this
        omega
    · rw [rcL_end h]; simp
/-- What stands behind the records that are read may be anything. -/
theorem rc_app : ∀ (n : Nat) (b q : List UInt8), b.length ≤ n → rcL (b.take (rcU b) ++ q) = rcL b ++ rcL q ∧ rcU (b.take (rcU b) ++ q) = rcU b + rcU q
  | n, b, q, hn => by
    by_cases h : dpE b = 0
    · have h1 := dpU_pos h
      obtain ⟨c1, c2, c3, c4⟩ := dp_can h
      match n with
      | 0 => omega
      | n + 1 =>
        obtain ⟨i1, i2⟩ := rc_app n (b.drop (dpU b)) q (by rw [List.length_drop]; omega)
        obtain ⟨e1, e2, e3⟩ := dp_enc c1 ((b.drop (dpU b)).take (rcU (b.drop (dpU b))) ++ q)
        have hb : b.take (rcU b) ++ q = encP (dpL b) ++ ((b.drop (dpU b)).take (rcU (b.drop (dpU b))) ++ q) := by
          rw [rcU_go h, List.take_add, c2, List.append_assoc]
        rw [hb, rcL_go e1, rcU_go e1, e2, e3, List.drop_left, i1, i2, rcL_go h, rcU_go h, c3]
        exact ⟨rfl, by omega⟩
    · rw [rcU_end h, rcL_end h]; simp
theorem rc_rec {L : List PT} (h : mayP L = true) (q : List UInt8) : rcL (encP L ++ q) = L :: rcL q ∧ rcU (encP L ++ q) = (encP L).length + rcU q := by
  obtain ⟨e1, e2, e3⟩ := dp_enc h q
  rw [rcL_go e1, rcU_go e1, e2, e3, List.drop_left]
  exact ⟨rfl, rfl⟩
theorem rc_nil : rcL [] = [] ∧ rcU [] = 0 := ⟨rcL_end (by rw [dpE_nil]; simp), rcU_end (by rw [dpE_nil]; simp)⟩
end Go.Proofs.Ytncjfljmnkfghaa

namespace Go.Proofs.Ytncjfljmnkfghaa
open Go.RowKit

/-- A byte as a value. -/
def bv (u : UInt8) : Value := .int .u8 (u.toNat : Int)
/-- The bytes of a text as values. -/
def bvs (bs : List UInt8) : List Value := bs.map bv

theorem bvs_length (bs : List UInt8) : (bvs bs).length = bs.length := by simp [bvs]
theorem bvs_append (a b : List UInt8) : bvs (a ++ b) = bvs a ++ bvs b := by simp [bvs]
theorem bvs_get (bs : List UInt8) (k : Nat) (h : k < bs.length) : (bvs bs)[k]? = some (bv bs[k]) := by simp [bvs, h]
theorem bvs_one (bs : List UInt8) : ∀ u ∈ bvs bs, u.oneCell' = true := by
  intro u hu
  obtain ⟨x, _, rfl⟩ := List.mem_map.1 hu
  rfl

/-- The address A, below block B, reads n elements of 'size' cells each: the cells xs. -/
def Rd (w : World) (B : Nat) (A : Option Addr) (size n : Nat) (xs : List Value) : Prop :=
  xs.length = n * size ∧ (0 < n → ∃ b o, A = some ⟨b, o, none⟩ ∧ b < B ∧ ∀ j u, xs[j]? = some u → w.cell? ⟨b, o + j, none⟩ = some u)

section
variable {w w' : World} {B B' size n : Nat} {A : Option Addr} {xs : List Value}

theorem Rd.nil : Rd w B A size 0 [] := ⟨by simp, fun h => absurd h (by omega)⟩

theorem Rd.keep (h : Rd w B A size n xs) (hk : ∀ p : Addr, p.block < B → w'.cell? p = w.cell? p) : Rd w' B A size n xs :=
  ⟨h.1, fun hn => by
    obtain ⟨b, o, e, hb, hc⟩ := h.2 hn
    exact ⟨b, o, e, hb, fun j u hu => (hk ⟨b, o + j, none⟩ hb).trans (hc j u hu)⟩⟩
theorem Rd.more (h : Rd w B A size n xs) (hB : B ≤ B') : Rd w B' A size n xs :=
  ⟨h.1, fun hn => by
    obtain ⟨b, o, e, hb, hc⟩ := h.2 hn
    exact ⟨b, o, e, by omega, hc⟩⟩
theorem Rd.below (h : Rd w B A size n xs) (hb : Below B w w') : Rd w' B A size n xs := h.keep fun _ hp => hb.cell hp
theorem Rd.drew (h : Rd w B A size n xs) : Rd w.drew B A size n xs := h
theorem Rd.drewN (h : Rd w B A size n xs) (k : Nat) : Rd (w.drewN k) B A size n xs := h
theorem Rd.alloc (h : Rd w B A size n xs) (hB : B ≤ w.heap.size) (o : Obj) : Rd (w.alloc o) B A size n xs :=
  h.below ((Below.refl _ _).alloc hB o)
theorem Rd.setCell (h : Rd w B A size n xs) {p : Addr} (hB : B ≤ p.block) (u : Value) : Rd (w.setCell p u) B A size n xs :=
  h.below ((Below.refl _ _).setCell hB u)
theorem Rd.grown (h : Rd w B A size n xs) {row : Option Nat} (hg : w.grownBy w' row) (hB : B ≤ w.heap.size) (hr : ∀ g, row = some g → B ≤ g) : Rd w' B A size n xs :=
  h.below ((Below.refl _ _).grown hg hB hr)
theorem Rd.len (h : Rd w B A size n xs) : xs.length = n * size := h.1
/-- The first elements alone. -/
theorem Rd.take (h : Rd w B A size n xs) {k : Nat} (hk : k ≤ n) : Rd w B A size k (xs.take (k * size)) := by
  refine ⟨by rw [List.length_take, h.1]; exact Nat.min_eq_left (Nat.mul_le_mul_right _ hk), fun h0 => ?_⟩
  obtain ⟨b, o, e, hb, hc⟩ := h.2 (by omega)
  refine ⟨b, o, e, hb, fun j u hu => hc j u ?_⟩
  rw [List.getElem?_take] at hu
  split at hu
  · exact hu
  · cases hu
/-- The elements from some place on, as the model cuts a slice: at the end of the capacity the address stays. -/
theorem Rd.drop (h : Rd w B A size n xs) {k cap : Nat} (hk : k ≤ n) (hc : n ≤ cap) :
    Rd w B (if cap = k then A else A.map (·.add (k * size))) size (n - k) (xs.drop (k * size)) := by
  refine ⟨by rw [List.length_drop, h.1, Nat.sub_mul], fun hn => ?_⟩
  obtain ⟨b, o, rfl, hb, hcell⟩ := h.2 (by omega)
  rw [if_neg (by omega)]
  refine ⟨b, o + k * size, by simp [Addr.add_lit], hb, fun j u hu => ?_⟩
  rw [Nat.add_assoc]
  exact hcell _ u (by rw [← hu, List.getElem?_drop])
end

/-- What a row of the call's own reads as. -/
theorem Rd.of_own {w : World} {base : Nat} {e : TypeId} {size n c : Nat} {A : Option Addr} {xs : List Value} (h : w.ownsRow base e size (.slice A n c) n xs) : Rd w w.heap.size A size n xs := by
  refine ⟨h.1, fun hn => ?_⟩
  rcases h.2 with ⟨_, h0⟩ | ⟨g, cap, cur, hv, _, hg, _, _, _, _⟩
  · omega
  · have hA : A = some ⟨g, 0, none⟩ := by injection hv
    subst hA
    refine ⟨g, 0, rfl, (Array.getElem?_eq_some_iff.1 hg).1, fun j u hu => ?_⟩
    have := h.cells (g := g) rfl j u hu
    simpa [Addr.add_lit] using this

/-- The value of a row of the call's own is a slice. -/
theorem own_form {w : World} {base : Nat} {e : TypeId} {size n : Nat} {v : Value} {xs : List Value} (h : w.ownsRow base e size v n xs) :
    ∃ A c, v = .slice A n c ∧ n ≤ c ∧ c ≤ maxLen ∧ (A = none ↔ v = .slice none 0 0) ∧ (∀ a, A = some a → base ≤ a.block ∧ a.block < w.heap.size ∧ a = ⟨a.block, 0, none⟩) := by
  rcases h.2 with ⟨rfl, rfl⟩ | ⟨g, cap, cur, rfl, hb, hg, hn, hm, _, _⟩
  · exact ⟨none, 0, rfl, Nat.le_refl _, by unfold maxLen; omega, by simp, by simp⟩
  · refine ⟨_, _, rfl, hn, hm, by simp, ?_⟩
    intro a ha
    injection ha with ha
    subst ha
    exact ⟨hb, (Array.getElem?_eq_some_iff.1 hg).1, rfl⟩

/-- A row of bytes of the call's own. -/
def OB (w : World) (base : Nat) (v : Value) (bs : List UInt8) : Prop := w.ownsRow base 5 1 v bs.length (bvs bs)
/-- A slice of bytes that is read: below block B. -/
def RB (w : World) (B : Nat) (A : Option Addr) (bs : List UInt8) : Prop := Rd w B A 1 bs.length (bvs bs)

theorem OB.form {w : World} {base : Nat} {v : Value} {bs : List UInt8} (h : OB w base v bs) :
    ∃ A c, v = .slice A bs.length c ∧ bs.length ≤ c ∧ c ≤ maxLen ∧ RB w w.heap.size A bs ∧ (∀ a, A = some a → base ≤ a.block ∧ a.block < w.heap.size ∧ a = ⟨a.block, 0, none⟩) := by
  obtain ⟨A, c, rfl, h1, h2, _, h4⟩ := own_form h
  exact ⟨A, c, rfl, h1, h2, Rd.of_own h, h4⟩

theorem RB.at_ {w : World} {B : Nat} {A : Option Addr} {bs : List UInt8} (h : RB w B A bs) {k : Nat} (hk : k < bs.length) :
    ∃ b o, A = some ⟨b, o, none⟩ ∧ b < B ∧ w.cell? ⟨b, o + k, none⟩ = some (.int .u8 (bs[k].toNat : Int)) := by
  obtain ⟨b, o, e, hb, hc⟩ := h.2 (by omega)
  exact ⟨b, o, e, hb, hc k _ (bvs_get bs k hk)⟩
theorem RB.all {w : World} {B : Nat} {A : Option Addr} {bs : List UInt8} (h : RB w B A bs) (h0 : 0 < bs.length) :
    ∃ b o, A = some ⟨b, o, none⟩ ∧ b < B ∧ ∀ k (hk : k < bs.length), w.cell? ⟨b, o + k, none⟩ = some (.int .u8 (bs[k].toNat : Int)) := by
  obtain ⟨b, o, e, hb, hc⟩ := h.2 h0
  exact ⟨b, o, e, hb, fun k hk => hc k _ (bvs_get bs k hk)⟩
theorem RB.nil_ {w : World} {B : Nat} {A : Option Addr} : RB w B A [] := Rd.nil
theorem RB.take {w : World} {B : Nat} {A : Option Addr} {bs : List UInt8} (h : RB w B A bs) {k : Nat} (hk : k ≤ bs.length) : RB w B A (bs.take k) := by
  have := Rd.take h hk
  unfold RB
  rw [List.length_take, Nat.min_eq_left hk]
  simpa [bvs, List.map_take] using this
theorem RB.first {w : World} {B : Nat} {A : Option Addr} {bs : List UInt8} (h : RB w B A bs) (k : Nat) : RB w B A (bs.take k) := by
  by_cases hk : k ≤ bs.length
  · exact h.take hk
  · rw [List.take_of_length_le (by omega)]; exact h
theorem RB.drop {w : World} {B : Nat} {A : Option Addr} {bs : List UInt8} (h : RB w B A bs) {k cap : Nat} (hk : k ≤ bs.length) (hc : bs.length ≤ cap) :
    RB w B (if cap = k then A else A.map (·.add k)) (bs.drop k) := by
  have := Rd.drop h hk hc
  unfold RB
  rw [List.length_drop]
  simpa [bvs, List.map_drop] using this
theorem RB.below {w w' : World} {B : Nat} {A : Option Addr} {bs : List UInt8} (h : RB w B A bs) (hb : Below B w w') : RB w' B A bs := Rd.below h hb
theorem RB.more {w : World} {B B' : Nat} {A : Option Addr} {bs : List UInt8} (h : RB w B A bs) (hB : B ≤ B') : RB w B' A bs := Rd.more h hB
theorem RB.alloc {w : World} {B : Nat} {A : Option Addr} {bs : List UInt8} (h : RB w B A bs) (hB : B ≤ w.heap.size) (o : Obj) : RB (w.alloc o) B A bs := Rd.alloc h hB o

/-- What a call answers, by its parts. -/
theorem ret_bool {a b : Bool} (h : a = b) : Ending.returned (.bool a) = .returned (.bool b) := by rw [h]
theorem ret_int_bool {k : IntKind} {a b : Int} {x y : Bool} (h : a = b) (g : x = y) : Ending.returned (.tuple #[.int k a, .bool x]) = .returned (.tuple #[.int k b, .bool y]) := by rw [h, g]
theorem ret_int {k : IntKind} {a b : Int} (h : a = b) : Ending.returned (.int k a) = .returned (.int k b) := by rw [h]

/-! ### append -/
theorem app_of_nil {P : Program} (w : World) (base : Nat) (t ty e : TypeId) (i : TypeInfo) (size : Nat) (ht : P.underlying t = some (.slice e)) (hi : P.info? e = some i)
    (v : Value) (n : Nat) (xs : List Value) (hown : w.ownsRow base e size v n xs) (c : Nat) : (Builtin.append_ #[t, t] ty #[v, .slice none 0 c]).run P w = .ok v w := by
  rcases hown.2 with ⟨rfl, rfl⟩ | ⟨g, cap, cur, rfl, _, _, hnc, _⟩
  · simp [Builtin.append_, run_underlying ht, sizeOf, typeInfo, hi, Builtin.lenOf, Builtin.firstCells]
  · simp [Builtin.append_, run_underlying ht, sizeOf, typeInfo, hi, Builtin.lenOf, Builtin.firstCells, hnc, storeCells]

/-- 'append' onto a row of the call's own, out of whatever slice. -/
theorem app_any {P : Program} (w : World) (base : Nat) (t ty e : TypeId) (i : TypeInfo) (z : Value) (size bytes : Nat) (ht : P.underlying t = some (.slice e)) (hi : P.info? e = some i) (hz : i.zero = some z)
    (hsize : i.size = size) (hby : i.bytes = bytes) (hzs : z.cells.size = size) (hsz : 0 < size)
    (v : Value) (n : Nat) (xs : List Value) (hown : w.ownsRow base e size v n xs)
    (B : Nat) (A : Option Addr) (m c : Nat) (news : List Value) (hr : Rd w B A size m news) (h1 : ∀ u ∈ news, u.oneCell' = true)
    (h63 : n + m ≤ maxLen) (hbytes : (n + m) * bytes ≤ 140737488355328) (hbase : base ≤ w.heap.size) :
    ∃ v' w', (Builtin.append_ #[t, t] ty #[v, .slice A m c]).run P w = .ok v' w' ∧ w'.ownsRow base e size v' (n + m) (xs ++ news) ∧ w.grownBy w' v.ownBlock ∧
      (v'.ownBlock = v.ownBlock ∨ v'.ownBlock = some w.heap.size) := by
  by_cases hm : m = 0
  · subst hm
    have hn : news = [] := List.eq_nil_of_length_eq_zero (by simpa using hr.1)
    subst hn
    rcases A with _ | ad
    · exact ⟨v, w, app_of_nil w base t ty e i size ht hi v n xs hown c, by simpa using hown, World.grownBy.refl w _, .inl rfl⟩
    · obtain ⟨v', w', hrun, h2, h3, _, h5⟩ := run_append_own_at (P := P) w base t ty e i z size bytes ht hi hz hsize hby hzs hsz v n xs hown ad 0 c [] (by simp) (by simp) (by simp) h63 hbytes hbase
      exact ⟨v', w', hrun, h2, h3, h5⟩
  · obtain ⟨b, o, rfl, _, hc⟩ := hr.2 (by omega)
    obtain ⟨v', w', hrun, h2, h3, _, h5⟩ := run_append_own_at (P := P) w base t ty e i z size bytes ht hi hz hsize hby hzs hsz v n xs hown ⟨b, o, none⟩ m c news hr.1
      (fun j u hu => by simpa [Addr.add_lit] using hc j u hu) h1 h63 hbytes hbase
    exact ⟨v', w', hrun, h2, h3, h5⟩

theorem wpList_app {P : Program} {w : World} {ops : Array Oper} {rest : List Oper} {o : Oper} {a : Act} {Q : Exit → Act → World → Prop} (hgd : o.guard = none) (s x : Operand) (t : TypeId)
    (ho : o.op = .call { callee := .builtin .append, args := #[s, x], argTypes := #[t, t] })
    (base : Nat) (e : TypeId) (i : TypeInfo) (z : Value) (size bytes : Nat) (ht : P.underlying t = some (.slice e)) (hi : P.info? e = some i) (hz : i.zero = some z)
    (hsize : i.size = size) (hby : i.bytes = bytes) (hzs : z.cells.size = size) (hsz : 0 < size)
    (v : Value) (n : Nat) (xs : List Value) (hs : a.eval s = v) (hown : w.ownsRow base e size v n xs)
    (B : Nat) (A : Option Addr) (m c : Nat) (news : List Value) (hx : a.eval x = .slice A m c) (hr : Rd w B A size m news) (h1 : ∀ u ∈ news, u.oneCell' = true)
    (h63 : n + m ≤ maxLen) (hbytes : (n + m) * bytes ≤ 140737488355328) (hbase : base ≤ w.heap.size)
    (h : ∀ v' w', w'.ownsRow base e size v' (n + m) (xs ++ news) → w.grownBy w' v.ownBlock → (v'.ownBlock = v.ownBlock ∨ v'.ownBlock = some w.heap.size) → wpList P ops Q rest (a.put o.dst v') w') : wpList P ops Q (o :: rest) a w := by
  refine wpList_plain hgd fun K hK => ?_
  obtain ⟨v', w', hrun, h2, h3, h4⟩ := app_any (P := P) w base t o.type e i z size bytes ht hi hz hsize hby hzs hsz v n xs hown B A m c news hr h1 h63 hbytes hbase
  unfold Oper.wp execOp
  simp only [ho, resolve, invoke, builtin, Sem.run_bind, Sem.run_pure, Result.andThen_ok, List.map_toArray, List.map_cons, List.map_nil, hs, hx, hrun]
  exact hK _ _ (h v' w' h2 h3 h4)

theorem eq_nilB (w : World) (A : Option Addr) (n c : Nat) : (binOp .eql 24 (.slice A n c) (.slice none 0 0)).run Try.prog w = .ok (.bool A.isNone) w :=
  Lib.run_eql_slice_nil w 24 5 A n c 0 0 Try.underlying24

theorem byte_info : (Try.prog.info? 5).map (fun i => (i.zero, i.size, i.bytes)) = some (some (.int .u8 0), 1, 1) := by kernel_rfl

/-- 'append(out, x)' and 'append(out, xs...)' at bytes, onto a row of the call's own. -/
theorem wpList_appB {w : World} {ops : Array Oper} {rest : List Oper} {o : Oper} {a : Act} {Q : Exit → Act → World → Prop} (hgd : o.guard = none) (s x : Operand)
    (ho : o.op = .call { callee := .builtin .append, args := #[s, x], argTypes := #[24, 24] })
    (base : Nat) (v : Value) (bs : List UInt8) (hs : a.eval s = v) (hown : OB w base v bs)
    (B : Nat) (A : Option Addr) (c : Nat) (news : List UInt8) (m : Nat) (hm : m = news.length) (hx : a.eval x = .slice A m c) (hr : RB w B A news)
    (h63 : bs.length + news.length ≤ 140737488355328) (hbase : base ≤ w.heap.size)
    (h : ∀ v' w', OB w' base v' (bs ++ news) → Below base w w' → w.grownBy w' v.ownBlock → (v'.ownBlock = v.ownBlock ∨ v'.ownBlock = some w.heap.size) → wpList Try.prog ops Q rest (a.put o.dst v') w') : wpList Try.prog ops Q (o :: rest) a w := by
  subst hm
  obtain ⟨i0, hi, hz, h1, h2⟩ := info_parts byte_info
  refine wpList_app hgd s x _ ho base 5 i0 _ 1 1 Try.underlying24 hi hz h1 h2 rfl (by omega) v bs.length (bvs bs) hs hown B A news.length c (bvs news) hx hr (bvs_one news) (by unfold maxLen; omega) (by omega) hbase ?_
  intro v' w' h3 h4 h5
  exact h v' w' (by unfold OB; rw [List.length_append, bvs_append]; exact h3) ((Below.refl _ _).grown h4 hbase (fun k hk => (hown.lt k hk).1)) h4 h5

/-- A block that the call has just laid, known whole: it reads as its bytes. -/
theorem RB.lit (w : World) (t : TypeId) (cs : Array Value) (bs : List UInt8) (h : cs = (bvs bs).toArray) : RB (w.alloc (.cells cs t)) (w.heap.size + 1) (some ⟨w.heap.size, 0, none⟩) bs := by
  subst h
  refine ⟨by simp [bvs], fun _ => ⟨_, _, rfl, by omega, fun j u hu => ?_⟩⟩
  rw [cell_of_row _ _ (0 + j) (bvs bs).toArray t (0, 0) (heap_alloc_new w _)]
  simpa using hu
theorem below_drewN {B : Nat} {a w : World} (h : Below B a w) (n : Nat) : Below B a (w.drewN n) := ⟨h.os, h.tape, h.output, h.size, h.block⟩

theorem OB.alloc {w : World} {base : Nat} {v : Value} {bs : List UInt8} (h : OB w base v bs) (o : Obj) : OB (w.alloc o) base v bs := World.ownsRow.alloc h o
theorem OB.nil (w : World) (base : Nat) : OB w base (.slice none 0 0) [] := World.ownsRow_nil _ _ _ _

/-- 'append(out, x)': one byte, which the translation lays in a new block first. -/
theorem wpList_app1 {w : World} {ops : Array Oper} {rest : List Oper} {o : Oper} {a : Act} {Q : Exit → Act → World → Prop} (hgd : o.guard = none) (s x : Operand)
    (ho : o.op = .call { callee := .builtin .append, args := #[s, x], argTypes := #[24, 24] })
    (base : Nat) (v : Value) (bs : List UInt8) (hs : a.eval s = v) (z : Int) (hx : a.eval x = .slice (some ⟨w.heap.size, 0, none⟩) 1 1) (hown : OB w base v bs)
    (u : UInt8) (hu : (u.toNat : Int) = z)
    (h63 : bs.length + 1 ≤ 140737488355328) (hbase : base ≤ w.heap.size)
    (h : ∀ v' w', OB w' base v' (bs ++ [u]) → Below base w w' → wpList Try.prog ops Q rest (a.put o.dst v') w') : wpList Try.prog ops Q (o :: rest) a (w.alloc (.cells #[.int .u8 z] 5)) := by
  refine wpList_appB hgd s x ho base v bs hs (hown.alloc _) (w.heap.size + 1) (some ⟨w.heap.size, 0, none⟩) 1 [u] 1 rfl hx ?_ h63 (by simp; omega) ?_
  · refine ⟨rfl, fun _ => ⟨_, _, rfl, by omega, fun j q hq => ?_⟩⟩
    match j, hq with
    | 0, hq => simp [bvs, bv] at hq; subst hq; subst hu; simp
    | j + 1, hq => simp [bvs] at hq
  · intro v' w' h1 h2 _ _
    exact h v' w' h1 (((Below.refl _ _).alloc hbase _).trans h2)

end Go.Proofs.Ytncjfljmnkfghaa

namespace Go.Proofs.Ytncjfljmnkfghaa
open Go.RowKit

theorem bvs_set (bs : List UInt8) (j : Nat) (u : UInt8) : (bvs bs).set j (bv u) = bvs (bs.set j u) := by simp [bvs, List.map_set]

theorem OB.stored {w : World} {base g c : Nat} {bs : List UInt8} {n : Nat} (hn : n = bs.length) (h : OB w base (.slice (some ⟨g, 0, none⟩) n c) bs) (j : Nat) (u : UInt8) :
    OB (w.setCell ⟨g, j, none⟩ (bv u)) base (.slice (some ⟨g, 0, none⟩) n c) (bs.set j u) ∧ w.grownBy (w.setCell ⟨g, j, none⟩ (bv u)) (some g) := by
  subst hn
  have := World.ownsRow.stored h j (bv u)
  rw [bvs_set] at this
  refine ⟨?_, this.2⟩
  unfold OB
  rw [List.length_set]
  exact this.1
theorem OB.cellAt {w : World} {base g c : Nat} {bs : List UInt8} {n : Nat} (hn : n = bs.length) (h : OB w base (.slice (some ⟨g, 0, none⟩) n c) bs) (j : Nat) (hj : j < bs.length) : w.cell? ⟨g, j, none⟩ = some (.int .u8 (bs[j].toNat : Int)) := by
  subst hn
  rw [World.ownsRow.cellAt h j (by omega), bvs_get bs j hj]
  rfl
theorem OB.frozenAt {w : World} {base g c : Nat} {bs : List UInt8} {n : Nat} (hn : n = bs.length) (h : OB w base (.slice (some ⟨g, 0, none⟩) n c) bs) (j : Nat) : w.frozen? ⟨g, j, none⟩ = false := by
  subst hn
  exact World.ownsRow.frozenAt h j

theorem OB.rd {w : World} {base c : Nat} {A : Option Addr} {bs : List UInt8} {n : Nat} (hn : n = bs.length) (h : OB w base (.slice A n c) bs) : RB w w.heap.size A bs := by
  subst hn
  exact Rd.of_own h

end Go.Proofs.Ytncjfljmnkfghaa

namespace Go.Proofs.Ytncjfljmnkfghaa
open Go.RowKit

theorem RB.lit' (w : World) (t : TypeId) (cs : Array Value) (fz : Nat × Nat) (bs : List UInt8) (h : cs = (bvs bs).toArray) : RB (w.alloc (.cells cs t fz)) (w.alloc (.cells cs t fz)).heap.size (some ⟨w.heap.size, 0, none⟩) bs := by
  subst h
  refine ⟨by simp [bvs], fun _ => ⟨_, _, rfl, by simp, fun j u hu => ?_⟩⟩
  rw [cell_of_row _ _ (0 + j) (bvs bs).toArray t fz (heap_alloc_new w _)]
  simpa using hu

/-- What was there is as it was. -/
def Grow (w w' : World) : Prop := Below w.heap.size w w'
section
variable {a b c w w' : World} {A : Option Addr} {n : Nat} {bs : List UInt8}
theorem Grow.refl (w : World) : Grow w w := Below.refl _ _
theorem Grow.size (h : Grow a b) : a.heap.size ≤ b.heap.size := Below.size h
theorem Grow.trans (h : Grow a b) (g : Grow b c) : Grow a c := Below.trans h (Below.mono g (Below.size h))
theorem Grow.low (h : Grow a b) (g : Below a.heap.size b c) : Grow a c := Below.trans h g
theorem Grow.alloc (h : Grow a b) (o : Obj) : Grow a (b.alloc o) := Below.alloc h (Below.size h) o
theorem Grow.drew (h : Grow a b) : Grow a b.drew := Below.drew h
theorem Grow.drewN (h : Grow a b) (k : Nat) : Grow a (b.drewN k) := below_drewN h k
theorem Grow.setCell (h : Grow a b) {p : Addr} (hp : a.heap.size ≤ p.block) (v : Value) : Grow a (b.setCell p v) := Below.setCell h hp v
theorem Grow.ofBelow {B : Nat} (h : Below B a b) (hB : B = a.heap.size) : Grow a b := by subst hB; exact h
theorem Grow.cells (h : Grow a b) : (∀ k o, k < a.heap.size → b.cell? ⟨k, o, none⟩ = a.cell? ⟨k, o, none⟩) ∧ (∀ k o, k < a.heap.size → b.frozen? ⟨k, o, none⟩ = a.frozen? ⟨k, o, none⟩) :=
  ⟨fun k o hk => Below.cell h (p := ⟨k, o, none⟩) hk, fun k o hk => Below.frozen h (p := ⟨k, o, none⟩) hk⟩
theorem Grow.cell (h : Grow a b) {p : Addr} {v : Value} (hc : a.cell? p = some v) : b.cell? p = some v := by
  obtain ⟨k, o, s⟩ := p
  have hs := World.cell?_spot hc
  simp at hs
  subst hs
  have := World.block_lt_of_cell? a _ hc
  exact (Below.cell h (p := ⟨k, o, none⟩) this).trans hc

theorem setCell_again (w : World) (b o : Nat) (v v' : Value) : (w.setCell ⟨b, o, none⟩ v).setCell ⟨b, o, none⟩ v' = w.setCell ⟨b, o, none⟩ v' := by
  unfold World.setCell
  congr 1
  apply Array.ext
  · simp
  · intro i h1 h2
    simp only [Array.getElem_modify]
    split
    · cases w.heap[i]'(by simpa using h2) <;> simp
    · rfl

theorem cell_set_eq {w : World} {p : Addr} {u v : Value} (h : w.cell? p = some u) : (w.setCell p v).cell? p = some v := World.cell?_setCell_same _ _ _ h
theorem cell_set_ne {w : World} {p q : Addr} {u v : Value} (h : w.cell? q = some v) (hn : p.block ≠ q.block) : (w.setCell p u).cell? q = some v := (World.cell?_setCell_other _ _ _ _ fun e => hn (by rw [e])).trans h
theorem cell_alloc {w : World} {o : Obj} {p : Addr} {v : Value} (h : w.cell? p = some v) : (w.alloc o).cell? p = some v := ((Grow.refl w).alloc o).cell h

/-- A slice of n bytes that is read in this world. -/
def Sl (w : World) (A : Option Addr) (n : Nat) (bs : List UInt8) : Prop := bs.length = n ∧ n ≤ 1073741000 ∧ RB w w.heap.size A bs
theorem Sl.keep (h : Sl w A n bs) (g : Grow w w') : Sl w' A n bs := ⟨h.1, h.2.1, (h.2.2.below g).more (Below.size g)⟩
theorem Sl.alloc (h : Sl w A n bs) (o : Obj) : Sl (w.alloc o) A n bs := h.keep ((Grow.refl w).alloc o)
theorem Sl.drewN (h : Sl w A n bs) (k : Nat) : Sl (w.drewN k) A n bs := h.keep ((Grow.refl w).drewN k)
theorem Sl.drew (h : Sl w A n bs) : Sl w.drew A n bs := h.keep ((Grow.refl w).drew)
theorem Sl.nil : Sl w A 0 [] := ⟨rfl, by omega, RB.nil_⟩
theorem Sl.len (h : Sl w A n bs) : bs.length = n := h.1
theorem Sl.take (h : Sl w A n bs) {k : Nat} (hk : k ≤ n) : Sl w A k (bs.take k) := ⟨by have := h.1; simp; omega, by have := h.2.1; omega, h.2.2.take (by have := h.1; omega)⟩
theorem Sl.ofRB (h : RB w w.heap.size A bs) (hn : bs.length = n) (hl : n ≤ 1073741000) : Sl w A n bs := ⟨hn, hl, h⟩
theorem Sl.ofTake (h : RB w w.heap.size A bs) (hn : n ≤ bs.length) (hl : n ≤ 1073741000) : Sl w A n (bs.take n) := ⟨by simp; omega, hl, h.take hn⟩
theorem Sl.drop (h : Sl w A n bs) {k c : Nat} (hk : k ≤ n) (hc : n ≤ c) : Sl w (if c = k then A else A.map (·.add k)) (n - k) (bs.drop k) :=
  ⟨by have := h.1; simp; omega, by have := h.2.1; omega, h.2.2.drop (by have := h.1; omega) (by have := h.1; omega)⟩
theorem Sl.cell (h : Sl w A n bs) {k : Nat} (hk : k < n) : ∃ b o, A = some ⟨b, o, none⟩ ∧ b < w.heap.size ∧ w.cell? ⟨b, o + k, none⟩ = some (.int .u8 ((bs[k]'(by have := h.1; omega)).toNat : Int)) := h.2.2.at_ (by have := h.1; omega)
theorem Sl.all (h : Sl w A n bs) (h0 : 0 < n) : ∃ b o, A = some ⟨b, o, none⟩ ∧ b < w.heap.size ∧ ∀ k (hk : k < n), w.cell? ⟨b, o + k, none⟩ = some (.int .u8 ((bs[k]'(by have := h.1; omega)).toNat : Int)) := by
  obtain ⟨b, o, e, hb, hc⟩ := h.2.2.all (by have := h.1; omega)
  exact ⟨b, o, e, hb, fun k hk => hc k (by have := h.1; omega)⟩
theorem Sl.lit (w : World) (t : TypeId) (cs : Array Value) (bs : List UInt8) (n : Nat) (hn : bs.length = n) (h : cs = (bvs bs).toArray) (hl : n ≤ 1073741000) : Sl (w.alloc (.cells cs t)) (some ⟨w.heap.size, 0, none⟩) n bs :=
  ⟨hn, hl, by have := RB.lit w t cs bs h; simpa using this⟩

theorem Sl.litf (w : World) (t : TypeId) (cs : Array Value) (fz : Nat × Nat) (bs : List UInt8) (n : Nat) (hn : bs.length = n) (h : cs = (bvs bs).toArray) (hl : n ≤ 1073741000) : Sl (w.alloc (.cells cs t fz)) (some ⟨w.heap.size, 0, none⟩) n bs :=
  ⟨hn, hl, RB.lit' w t cs fz bs h⟩

/-- A slice of n bytes of the call's own: what lies below 'base' is none of it. -/
def Own (w : World) (base : Nat) (A : Option Addr) (n c : Nat) (bs : List UInt8) : Prop := bs.length = n ∧ n ≤ 1073741000 ∧ OB w base (.slice A n c) bs
theorem Own.sl {base c' : Nat} (h : Own w base A n c' bs) : Sl w A n bs := by
  obtain ⟨h1, h2, h3⟩ := h
  obtain ⟨A', c2, e, -, -, hr, -⟩ := h3.form
  injection e with e1 e2 e3
  subst e1
  exact ⟨h1, h2, hr⟩
theorem Own.low {base B : Nat} {c' : Nat} (h : Own w base A n c' bs) (hB : B ≤ base) : Own w B A n c' bs := ⟨h.1, h.2.1, World.ownsRow.mono h.2.2 hB⟩
theorem Own.cap {base : Nat} {c' : Nat} (h : Own w base A n c' bs) : n ≤ c' := by
  obtain ⟨A', c2, e, h1, -, -, -⟩ := h.2.2.form
  injection e with e1 e2 e3
  omega
theorem Own.row {base c' : Nat} (h : Own w base A n c' bs) (h0 : 0 < n) : ∃ g, A = some ⟨g, 0, none⟩ ∧ base ≤ g ∧ g < w.heap.size := by
  obtain ⟨h1, h2, h3⟩ := h
  obtain ⟨A', c2, e, -, -, hr, hb⟩ := h3.form
  injection e with e1 e2 e3
  subst e1
  obtain ⟨b, o, e, -⟩ := hr.2 (by omega)
  obtain ⟨q1, q2, q3⟩ := hb _ e
  injection q3 with q4 q5
  refine ⟨b, ?_, q1, q2⟩
  rw [e, q5]
theorem Own.alloc {base : Nat} {c' : Nat} (h : Own w base A n c' bs) (o : Obj) : Own (w.alloc o) base A n c' bs := ⟨h.1, h.2.1, h.2.2.alloc o⟩
theorem Own.ofOB {base : Nat} {v : Value} (h : OB w base v bs) (m : Nat) (hm : bs.length = m) (hl : m ≤ 1073741000) : ∃ A c, v = .slice A m c ∧ Own w base A m c bs := by
  obtain ⟨A, c, rfl, -, -, -, -⟩ := h.form
  exact ⟨A, c, by rw [hm], hm, hl, by rw [← hm]; exact h⟩
theorem Own.nil (w : World) (base : Nat) : Own w base none 0 0 [] := ⟨rfl, by omega, OB.nil w base⟩
end

/-- The cells of block g, from the first on. -/
def Blk (w : World) (g : Nat) (vs : List Value) : Prop := g < w.heap.size ∧ ∀ j v, vs[j]? = some v → w.cell? ⟨g, j, none⟩ = some v
theorem Blk.keep {w w' : World} {g : Nat} {vs : List Value} (h : Blk w g vs) (k : Grow w w') : Blk w' g vs := ⟨Nat.lt_of_lt_of_le h.1 k.size, fun j v hv => k.cell (h.2 j v hv)⟩
theorem Blk.below {w w' : World} {g B : Nat} {vs : List Value} (h : Blk w g vs) (k : Below B w w') (hg : g < B) : Blk w' g vs := ⟨Nat.lt_of_lt_of_le h.1 k.size, fun j v hv => (k.cell (p := ⟨g, j, none⟩) hg).trans (h.2 j v hv)⟩
theorem Blk.new (w : World) (t : TypeId) (vs : List Value) (cs : Array Value) (fz : Nat × Nat) (h : cs = vs.toArray) : Blk (w.alloc (.cells cs t fz)) w.heap.size vs := by
  subst h
  refine ⟨by simp, fun j v hv => ?_⟩
  rw [cell_of_row _ _ j vs.toArray t fz (heap_alloc_new w _)]
  simpa using hv
section
variable {w : World} {g : Nat} {a b c d e f : Value}
theorem Blk.c1 (h : Blk w g [a]) : w.cell? ⟨g, 0, none⟩ = some a := h.2 0 _ rfl
theorem Blk.c2 (h : Blk w g [a, b]) : w.cell? ⟨g, 0, none⟩ = some a ∧ w.cell? ⟨g, 1, none⟩ = some b := ⟨h.2 0 _ rfl, h.2 1 _ rfl⟩
theorem Blk.c3 (h : Blk w g [a, b, c]) : w.cell? ⟨g, 0, none⟩ = some a ∧ w.cell? ⟨g, 1, none⟩ = some b ∧ w.cell? ⟨g, 2, none⟩ = some c := ⟨h.2 0 _ rfl, h.2 1 _ rfl, h.2 2 _ rfl⟩
theorem Blk.c4 (h : Blk w g [a, b, c, d]) : w.cell? ⟨g, 0, none⟩ = some a ∧ w.cell? ⟨g, 1, none⟩ = some b ∧ w.cell? ⟨g, 2, none⟩ = some c ∧ w.cell? ⟨g, 3, none⟩ = some d := ⟨h.2 0 _ rfl, h.2 1 _ rfl, h.2 2 _ rfl, h.2 3 _ rfl⟩
theorem Blk.c5 (h : Blk w g [a, b, c, d, e]) : w.cell? ⟨g, 0, none⟩ = some a ∧ w.cell? ⟨g, 1, none⟩ = some b ∧ w.cell? ⟨g, 2, none⟩ = some c ∧ w.cell? ⟨g, 3, none⟩ = some d ∧ w.cell? ⟨g, 4, none⟩ = some e := ⟨h.2 0 _ rfl, h.2 1 _ rfl, h.2 2 _ rfl, h.2 3 _ rfl, h.2 4 _ rfl⟩
theorem Blk.c6 (h : Blk w g [a, b, c, d, e, f]) : w.cell? ⟨g, 0, none⟩ = some a ∧ w.cell? ⟨g, 1, none⟩ = some b ∧ w.cell? ⟨g, 2, none⟩ = some c ∧ w.cell? ⟨g, 3, none⟩ = some d ∧ w.cell? ⟨g, 4, none⟩ = some e ∧ w.cell? ⟨g, 5, none⟩ = some f := ⟨h.2 0 _ rfl, h.2 1 _ rfl, h.2 2 _ rfl, h.2 3 _ rfl, h.2 4 _ rfl, h.2 5 _ rfl⟩
end

theorem Blk.set_ne {w : World} {g : Nat} {vs : List Value} {p : Addr} {v : Value} (h : Blk w g vs) (hn : p.block ≠ g) : Blk (w.setCell p v) g vs := ⟨by simpa using h.1, fun j u hu => cell_set_ne (h.2 j u hu) hn⟩
theorem Blk.set {w : World} {g : Nat} {vs : List Value} {v : Value} (h : Blk w g vs) {j : Nat} (hj : j < vs.length) : Blk (w.setCell ⟨g, j, none⟩ v) g (vs.set j v) := by
  refine ⟨by simpa using h.1, fun i u hu => ?_⟩
  by_cases e : j = i
  · subst e
    obtain rfl : v = u := by simpa [List.getElem?_set, hj] using hu
    exact cell_set_eq (h.2 j _ (List.getElem?_eq_getElem hj))
  · rw [List.getElem?_set_ne e] at hu
    exact (World.cell?_setCell_other _ _ _ _ (fun e2 => e (by injection e2))).trans (h.2 i u hu)
/-- The cells of block g, none of them frozen. -/
def Row (w : World) (g : Nat) (vs : List Value) : Prop := Blk w g vs ∧ ∀ j, j < vs.length → w.frozen? ⟨g, j, none⟩ = false
theorem Row.keep {w w' : World} {g : Nat} {vs : List Value} (h : Row w g vs) (k : Grow w w') : Row w' g vs := ⟨h.1.keep k, fun j hj => (k.cells.2 g j h.1.1).trans (h.2 j hj)⟩
theorem Row.new (w : World) (t : TypeId) (vs : List Value) (cs : Array Value) (h : cs = vs.toArray) : Row (w.alloc (.cells cs t)) w.heap.size vs := by
  refine ⟨Blk.new w t vs cs (0, 0) h, fun j _ => ?_⟩
  exact frozen_of_row _ _ j _ t (heap_alloc_new w _)
theorem Row.set_ne {w : World} {g : Nat} {vs : List Value} {p : Addr} {v : Value} (h : Row w g vs) (hn : p.block ≠ g) : Row (w.setCell p v) g vs := ⟨h.1.set_ne hn, fun j hj => by simpa using h.2 j hj⟩
theorem Row.set {w : World} {g : Nat} {vs : List Value} {v : Value} (h : Row w g vs) {j : Nat} (hj : j < vs.length) : Row (w.setCell ⟨g, j, none⟩ v) g (vs.set j v) := ⟨h.1.set hj, fun i hi => by rw [List.length_set] at hi; simpa using h.2 i hi⟩

theorem ints_new (w : World) (t : TypeId) (ns : List Int) (cs : Array Value) (h : cs = (ns.map (Value.int .i64)).toArray) : ∀ j (_ : j < ns.length), (w.alloc (.cells cs t)).cell? ⟨w.heap.size, 0 + j, none⟩ = some (.int .i64 ns[j]) := by
  subst h
  intro j hj
  rw [cell_of_row _ _ (0 + j) (ns.map (Value.int .i64)).toArray t (0, 0) (heap_alloc_new w _)]
  simp [hj]

theorem ints_at (w : World) (t : TypeId) (b : Nat) (ns : List Int) (cs : Array Value) (hb : b = w.heap.size) (h : cs = (ns.map (Value.int .i64)).toArray) : ∀ j (_ : j < ns.length), (w.alloc (.cells cs t)).cell? ⟨b, 0 + j, none⟩ = some (.int .i64 ns[j]) := by
  subst hb
  exact ints_new w t ns cs h

theorem Own.lit (w : World) (cs : Array Value) (bs : List UInt8) (n base : Nat) (hn : bs.length = n) (h : cs = (bvs bs).toArray) (hl : n ≤ 1073741000) (hB : base ≤ w.heap.size) : Own (w.alloc (.cells cs 5)) base (some ⟨w.heap.size, 0, none⟩) n n bs := by
  subst hn h
  refine ⟨rfl, hl, ?_⟩
  unfold OB World.ownsRow
  refine ⟨by simp [bvs], .inr ⟨w.heap.size, bs.length, (bvs bs).toArray, rfl, hB, heap_alloc_new w _, Nat.le_refl _, by unfold maxLen; omega, by simp [bvs], ?_⟩⟩
  rw [List.take_of_length_le (by simp [bvs])]
theorem byte_int (n : Int) (h0 : 0 ≤ n) (h : n < 256) : ((UInt8.ofNat (n.toNat % 256)).toNat : Int) = n := by simp; omega
theorem pad_next (bs : List UInt8) (j : Nat) : bs ++ List.replicate j 0 ++ [0] = bs ++ List.replicate (j + 1) 0 := by
  rw [List.append_assoc, List.replicate_succ']
def lenV : Value → Nat
  | .slice _ n _ => n
  | _ => 0

end Go.Proofs.Ytncjfljmnkfghaa
