/- plog.Encode. What a transaction's patches lay over bytes: in plain words. bytes.Equal. commonsref08.Decode. No statement of the seat is proved here. -/
import Derived.Test.YtlinlmimakealaaZ11
import Derived.Test.YtlinlmimakealaaZ08
import Derived.Laws.BytesArg
namespace Go.Proofs.Ytlinlmimakealaa
open Go.RowKit

theorem up_fillP (n : Nat) (h : n ≤ 2000000000) : upN (n : Int) 8 = (n : Int) + (fillN n : Nat) := by
  have hm : mayB (n : Int) 8 = true := may_iff.2 ⟨by omega, by omega, by omega, by omega⟩
  rw [upN, if_pos hm, fillN]
  omega
theorem fill_ltP (n : Nat) : fillN n < 8 := by unfold fillN; omega
/-- What Encode tells. -/
def EncRes (w w' : World) (L : List PT) (e : Ending) : Prop :=
  (mayP L = true ∧ ∃ A' c', e = .returned (.tuple #[.slice A' (encP L).length c', .int .i64 0]) ∧ Own w' w.heap.size A' (encP L).length c' (encP L) ∧ Grow w w') ∨
  (mayP L = false ∧ e = .returned (.tuple #[.slice none 0 0, .int .i64 1]) ∧ Grow w w')
def PT.wide (p : PT) : Prop := -9223372036854775808 ≤ p.pos ∧ p.pos ≤ 9223372036854775807
def EncInv (w wr : World) (L : List PT) (v i : Value) : Prop := ∃ (k m : Nat) (A : Option Addr) (c : Nat), i = .int .i64 (k : Int) ∧ k ≤ L.length ∧ v = .slice A m c ∧ m ≤ 2 + 262 * k ∧ Own wr w.heap.size A m c (leB L.length 2 ++ encF (L.take k)) ∧ (L.take k).all PT.may = true ∧ Grow w wr

theorem take_may {L : List PT} {k : Nat} (hk : k < L.length) (h : (L.take k).all PT.may = true) (hr : L[k].may = true) : (L.take (k + 1)).all PT.may = true := by
  rw [List.take_succ_eq_append_getElem hk, List.all_append, h]; simp [hr]
theorem not_mayP {L : List PT} {k : Nat} (hk : k < L.length) (hr : L[k].may = false) : mayP L = false := by
  rw [Bool.eq_false_iff]
  intro q
  have := List.all_eq_true.1 (mayP_iff.1 q).2 L[k] (List.getElem_mem _)
  rw [hr] at this
  cases this
theorem encF_take {L : List PT} {k : Nat} (hk : k < L.length) : encF (L.take (k + 1)) = encF (L.take k) ++ L[k].enc := by
  rw [List.take_succ_eq_append_getElem hk, encF_append]; simp [encF]

theorem wrap_small1 {k : Nat} (h : k < 64) : wrap64 ((k : Int) + 1) = (k : Int) + 1 := IntWalk.wrap64_in _ (by omega)
theorem measP {M k : Nat} (h : k < M) : M - (intOf (.int .i64 ((k : Int) + 1))).toNat < M - (intOf (.int .i64 (k : Int))).toNat := by simp [intOf]; omega
theorem measPW {M k : Nat} (h : k < M) (e : wrap64 ((k : Int) + 1) = (k : Int) + 1) : M - (intOf (.int .i64 (wrap64 ((k : Int) + 1)))).toNat < M - (intOf (.int .i64 (k : Int))).toNat := by rw [e]; exact measP h

theorem pl_encode_long {w : World} {A : Option Addr} {n c : Nat} {L : List PT} (hn : L.length = n) (hl : 64 < n) :
    Calls Try.prog 13 #[.slice A n c] w fun e w' => EncRes w w' L e := by
  have HM := Lib.hid (show mayP L = false by rw [Bool.eq_false_iff]; intro q; have := (mayP_iff.1 q).1; omega)
  have z1 : decide (64 < n) = true := decide_eq_true hl
  have z2 : decide ((64 : Int) < (n : Int)) = true := decide_eq_true (by omega)
  clear hn
  go_enter Try.func13, Try.ntmps13
  go_wp2_with fail
  go_ret2
  exact .inr ⟨HM.out, rfl, Grow.refl _⟩

set_option maxHeartbeats 4000000 in
set_option maxRecDepth 8000 in
theorem pl_encode_go {w : World} {A : Option Addr} {n c : Nat} {L : List PT} (hr : RP w A n L) (hl : n ≤ 64) (hw : ∀ p ∈ L, p.wide) :
    Calls Try.prog 13 #[.slice A n c] w fun e w' => EncRes w w' L e := by
  have HR := Lib.hid hr
  have HN := Lib.hid hr.1
  have HW := Lib.hid hw
  have z1 : decide (64 < n) = false := decide_eq_false (by omega)
  have z2 : decide ((64 : Int) < (n : Int)) = false := decide_eq_false (by omega)
  clear hr hw
  go_enter Try.func13, Try.ntmps13
  go_wp2_with fail
  refine (put_s (n := 0) (bs := []) 2 Sl.nil (by simp [fitsB]; omega) (by omega) (by simp) (by omega)).mono ?_
  rintro e w1 ⟨A1, c1, rfl, o1, g1⟩
  have HI := Lib.hid (show EncInv w w1 L (.slice A1 2 c1) (.int .i64 0) from ⟨0, 2, A1, c1, rfl, by omega, rfl, by omega, by simpa [encF, HN.out] using o1, by simp, g1⟩)
  clear o1 g1
  go_wp2_with fail
  go_loopw [4, 15] (fun v t wr => EncInv w wr L v t) (fun _ t _ => n - (intOf t).toNat)
  case atStart => exact HI.out
  case round =>
    obtain ⟨k, m, A2, c2, rfl, hk, rfl, hm, o2, hall, g2⟩ := hrel
    clear HI
    by_cases hlt : k < n
    · obtain ⟨b, o, r, hrk, rfl, hb, d0, d1⟩ := HR.out.at_ hlt
      obtain ⟨hk1, hk2⟩ := List.getElem?_eq_some_iff.1 hrk
      have hwd := HW.out r (by rw [← hk2]; exact List.getElem_mem _)
      have e0 := g2.cell d0
      have e1 := g2.cell d1
      have HRK := Lib.hid hk2
      have HWD := Lib.hid hwd
      have HALL := Lib.hid hall
      have hbz : b ≠ wr.heap.size := by have := g2.size; omega
      clear d0 d1 hrk hwd hall hk2
      go_wp2_with fail
      refine (num_fits r.pos 4 HWD.out.1 HWD.out.2 _).mono ?_
      rintro e w' ⟨rfl, rfl⟩
      cases hf : fitsB r.pos 4 with
      | false =>
        have HM := Lib.hid (show mayP L = false from not_mayP (k := k) hk1 (by rw [HRK.out, PT.may, hf]; rfl))
        clear hf
        go_wp2_with fail
        go_ret2
        exact .inr ⟨HM.out, rfl, g2.alloc _⟩
      | true =>
        by_cases hs : 256 < r.dat.size
        · have HM := Lib.hid (show mayP L = false from not_mayP (k := k) hk1 (by rw [HRK.out, PT.may, hf]; simp; omega))
          have y1 : decide (256 < r.dat.size) = true := decide_eq_true hs
          have y2 : decide ((256 : Int) < (r.dat.size : Int)) = true := decide_eq_true (by omega)
          clear hf
          go_wp2_with fail
          go_ret2
          exact .inr ⟨HM.out, rfl, g2.alloc _⟩
        · have HF := Lib.hid hf
          have y1 : decide (256 < r.dat.size) = false := decide_eq_false hs
          have y2 : decide ((256 : Int) < (r.dat.size : Int)) = false := decide_eq_false (by omega)
          have hsz : r.dat.size ≤ 256 := by omega
          have HMAY := Lib.hid (take_may (k := k) hk1 HALL.out (by rw [HRK.out, PT.may, hf]; simp; omega))
          clear hf hs
          have s2 := o2.sl
          have HS3 := Lib.hid (s2.alloc (.cells #[.int .i64 r.pos, .string r.dat] 37))
          have R3 := Row.new wr 37 [.int .i64 r.pos, .string r.dat] _ rfl
          have HG3 := Lib.hid (g2.alloc (.cells #[.int .i64 r.pos, .string r.dat] 37))
          have HO := Lib.hid o2
          have hmb : m ≤ 20000 := by omega
          have hm4 : m + (Int.toNat 4) = m + 4 := rfl
          clear s2 o2
          go_wp2_with fail
          refine (put_s (m + 4) HS3.out HF.out HWD.out.2 hm4 (by omega)).mono ?_
          rintro e w4 ⟨A4, c4, rfl, o4, g4⟩
          have R4 := R3.keep g4
          have HG4 := Lib.hid (HG3.out.trans g4)
          have s4 := o4.sl
          have l4 := g4.size
          have f0 := R4.1.2 0 _ rfl; have f1 := R4.1.2 1 _ rfl
          clear HS3 o4 R3
          go_wp2_with fail
          refine (put_s (m + 6) s4 (k := (r.dat.size : Int)) (by simp [fitsB]; omega) (by omega) (by simp) (by omega)).mono ?_
          rintro e w5 ⟨A5, c5, rfl, o5, g5⟩
          have R5 := R4.keep g5
          have HG5 := Lib.hid (HG4.out.trans g5)
          have h0 := R5.1.2 0 _ rfl; have h1 := R5.1.2 1 _ rfl
          have o5' := o5.low (B := w.heap.size) (Nat.le_trans HG3.out.size (by simpa using l4))
          have HZ5 := Lib.hid HG5.out.size
          have HL5 := Lib.hid o5'.1
          clear o5 s4 f0 f1 R4 l4
          go_wp2_with (at_builtin; refine wpList_appS rfl (.tmp 38) (.tmp 40) rfl w.heap.size _ _ rfl o5'.2.2 r.dat rfl (by rw [HL5.out]; omega) HZ5.out ?_; intro v6 w6 q1 q2; obtain ⟨A6, c6, rfl, o6⟩ := Own.ofOB q1 (m + 6 + r.dat.size) (by rw [List.length_append, HL5.out]; exact congrArg _ (PT.txt_length r)) (by omega); clear q1)
          have X : EncInv w w6 L (.slice A6 (m + 6 + r.dat.size) c6) (.int .i64 ((k : Int) + 1)) := ⟨k + 1, _, A6, c6, by simp, hk1, rfl, by omega, by
            have := encF_take (L := L) (k := k) hk1
            rw [this, HRK.out, PT.enc]
            simpa [List.append_assoc, PT.txt] using o6, HMAY.out, HG5.out.low q2⟩
          have e5 := wrap_small1 (show k < 64 by omega)
          clear o6 q2 o5' h0 h1 R5
          go_roundw
          case rel => (try rw [e5]); first | exact X | ((repeat apply Exists.intro); exact X) | ((repeat apply Exists.intro); refine ⟨X, ?_⟩; rfl)
          case measure => first | exact measP hlt | exact measPW hlt e5
    · obtain rfl : k = n := by have := HN.out; omega
      have HMAY := Lib.hid (show mayP L = true from mayP_iff.2 ⟨by have := HN.out; omega, by rw [List.take_of_length_le (by have := HN.out; omega)] at hall; exact hall⟩)
      have HB := Lib.hid (show leB L.length 2 ++ encF (L.take k) = bodyP L by rw [List.take_of_length_le (by have := HN.out; omega)]; rfl)
      have HO := Lib.hid o2
      have HG := Lib.hid g2
      have hmb : m ≤ 20000 := by omega
      have s2 := o2.sl
      have HEQ := Lib.hid (encP_le HMAY.out)
      obtain ⟨bd, hbd⟩ : ∃ bd, bd = bodyP L := ⟨_, rfl⟩
      rw [HB.out, ← hbd] at s2
      have HBD := Lib.hid hbd
      have HLB := Lib.hid s2.1
      clear o2 hall g2 hlt hbd
      go_wp2_with fail
      refine (sum_s s2).mono ?_
      rintro e w3 ⟨q, rfl, hq, hq1, g3⟩
      have s3 := s2.keep g3
      have HG3 := Lib.hid (HG.out.trans g3)
      have hm4 : m + (Int.toNat 4) = m + 4 := rfl
      clear s2 g3
      go_wp2_with fail
      refine (put_s (m + 4) s3 (k := (q : Int)) (by simp [fitsB]; omega) (by omega) hm4 (by omega)).mono ?_
      rintro e w4 ⟨A4, c4, rfl, o4, g4⟩
      have HG4 := Lib.hid (HG3.out.trans g4)
      have HZ4 := Lib.hid HG4.out.size
      have o4' := o4.low (B := w.heap.size) HG3.out.size
      have hbb : bd ++ leB (q : Int).toNat (Int.toNat 4) = sumB bd := by rw [hq.out]; rfl
      rw [hbb] at o4'
      have hlb : (sumB bd).length = m + 4 := by rw [sumB_length, HLB.out]
      have hfl := fill_ltP (m + 4)
      have hu := up_fillP (m + 4) (by omega)
      obtain ⟨f, hf⟩ : ∃ f, f = fillN (m + 4) := ⟨_, rfl⟩
      rw [← hf] at hfl hu
      have HF := Lib.hid hf
      have HU := Lib.hid hu
      have HLS := Lib.hid hlb
      have HO4 := Lib.hid o4'
      clear o4 g4 s3 hbb hlb hu hf o4' hq
      go_wp2_with fail
      refine (num_up _ _ _).mono ?_
      rintro e w' ⟨rfl, rfl⟩
      rw [show ((m : Int) + 4) = ((m + 4 : Nat) : Int) by simp, HU.out]
      obtain ⟨M, hM⟩ : ∃ M, M = m + 4 := ⟨_, rfl⟩
      have HO5 := Lib.hid (show Own w4 w.heap.size A4 M c4 (sumB bd) by rw [hM]; exact HO4.out)
      have hM2 : M ≤ 20004 := by omega
      have HM := Lib.hid hM
      rw [← hM]
      clear hM HO4
      go_wp2_with (at_builtin; refine wpList_appZ rfl (.tmp 48) (.tmp 54) rfl w.heap.size _ (sumB bd) rfl HO5.out.2.2 f _ (by first | rfl | omega) rfl (by rw [HLS.out]; omega) HZ4.out ?_; intro v9 w9 hown9 hb9)
      have he : sumB bd ++ List.replicate f 0 = encP L := by rw [encP, ← HBD.out, HF.out, HLS.out]
      rw [he] at hown9
      obtain ⟨A9, c9, rfl, o9⟩ := Own.ofOB hown9 _ rfl (by have := HEQ.out; omega)
      clear hown9
      go_ret2
      exact .inl ⟨HMAY.out, A9, c9, rfl, o9, HG4.out.low hb9⟩

theorem pl_encode {w : World} {A : Option Addr} {n c : Nat} {L : List PT} (hr : RP w A n L) (hw : ∀ p ∈ L, p.wide) :
    Calls Try.prog 13 #[.slice A n c] w fun e w' => EncRes w w' L e := by
  by_cases h : 64 < n
  · exact pl_encode_long hr.1 h
  · exact pl_encode_go hr (by omega) hw
end Go.Proofs.Ytlinlmimakealaa

namespace Go.Proofs.Ytlinlmimakealaa

/-- A patch laid over the bytes from place a on. -/
def ovB (bs : List UInt8) (a : Nat) (p : PT) : List UInt8 :=
  if max a p.pos.toNat < min (a + bs.length) (p.pos.toNat + p.dat.size) then
    putL bs (max a p.pos.toNat - a) ((p.txt.drop (max a p.pos.toNat - p.pos.toNat)).take (min (a + bs.length) (p.pos.toNat + p.dat.size) - max a p.pos.toNat))
  else bs
def ovL (bs : List UInt8) (a : Nat) (L : List PT) : List UInt8 := L.foldl (fun b p => ovB b a p) bs
theorem ovB_length (bs : List UInt8) (a : Nat) (p : PT) : (ovB bs a p).length = bs.length := by
  unfold ovB; split
  · rw [putL_length]
  · rfl
theorem ovL_length (L : List PT) (a : Nat) : ∀ bs : List UInt8, (ovL bs a L).length = bs.length := by
  induction L with
  | nil => intro bs; rfl
  | cons p L ih => intro bs; rw [ovL, List.foldl_cons]; exact (ih _).trans (ovB_length _ _ _)
theorem ovL_step {bs : List UInt8} {a : Nat} {L : List PT} {k : Nat} {r : PT} (h : L[k]? = some r) : ovL bs a (L.take (k + 1)) = ovB (ovL bs a (L.take k)) a r := by
  rw [ovL, ovL, List.take_add_one, h, List.foldl_append]; rfl
theorem ovB_get (bs : List UInt8) (a : Nat) (p : PT) (j : Nat) (hj : j < bs.length) :
    (ovB bs a p).getD j 0 = if p.pos.toNat ≤ a + j ∧ a + j < p.pos.toNat + p.dat.size then p.txt.getD (a + j - p.pos.toNat) 0 else bs.getD j 0 := by
  unfold ovB
  have ht := p.txt_length
  by_cases h : max a p.pos.toNat < min (a + bs.length) (p.pos.toNat + p.dat.size)
  · rw [if_pos h]
    have hl : ((p.txt.drop (max a p.pos.toNat - p.pos.toNat)).take (min (a + bs.length) (p.pos.toNat + p.dat.size) - max a p.pos.toNat)).length = min (a + bs.length) (p.pos.toNat + p.dat.size) - max a p.pos.toNat := by
      rw [List.length_take, List.length_drop, ht]; omega
    rw [putL_get _ _ _ _ (by rw [hl]; omega), hl]
    by_cases hc : p.pos.toNat ≤ a + j ∧ a + j < p.pos.toNat + p.dat.size
    · rw [if_pos hc, if_pos (by omega)]
      simp only [List.getD_eq_getElem?_getD, List.getElem?_take, List.getElem?_drop]
      rw [if_pos (by omega)]
      congr 2
      omega
    · rw [if_neg hc, if_neg (by omega)]
  · rw [if_neg h, if_neg (by omega)]
/-- The document's way: byte by byte. -/
theorem ovB_ext {bs b : List UInt8} {a : Nat} {p : PT} (hl : b.length = bs.length) (h : ∀ j, j < bs.length → b.getD j 0 = if p.pos.toNat ≤ a + j ∧ a + j < p.pos.toNat + p.dat.size then p.txt.getD (a + j - p.pos.toNat) 0 else bs.getD j 0) : b = ovB bs a p :=
  ext_getD (by rw [hl, ovB_length]) fun j hj => by rw [h j (by omega), ovB_get _ _ _ _ (by omega)]
/-- A patch that may be stored. -/
def PT.fits (p : PT) : Prop := 0 ≤ p.pos ∧ p.pos + (p.dat.size : Int) ≤ 1024 ∧ p.dat.size ≤ 256
theorem PT.fits.wide {p : PT} (h : p.fits) : p.wide := by
  unfold PT.wide
  obtain ⟨h1, h2, h3⟩ := h
  omega
end Go.Proofs.Ytlinlmimakealaa

namespace Go.Proofs.Ytlinlmimakealaa
open Go.RowKit

theorem strOf_bytes (bs : List UInt8) : strOfNums (bs.map fun u => (u.toNat : Int)) = ⟨bs.toArray⟩ := by
  unfold strOfNums
  congr 1
  simp [Function.comp_def]

/-- string(b). -/
theorem conv_s {A : Option Addr} {n c : Nat} {bs : List UInt8} {w : World} (h : Sl w A n bs) : (convert 22 9 (.slice A n c)).run Try.prog w = .ok (.string ⟨bs.toArray⟩) w := by
  rcases Nat.eq_zero_or_pos n with hn | hn
  · subst hn
    obtain rfl : bs = [] := List.eq_nil_of_length_eq_zero h.1
    rcases A with _ | a
    · exact run_convert_bytes_nil w 22 5 Try.underlying22 Try.underlying5 0 c _ Try.underlying9
    · rw [run_convert_bytes_string w 22 9 5 _ 0 c Try.underlying22 Try.underlying5 Try.underlying9]
      simp [Conv.bytesToString, loadCells]
      rfl
  · obtain ⟨b, o, rfl, hb, hc⟩ := h.all hn
    have := run_convert_bytes_arg (P := Try.prog) w 22 5 Try.underlying22 Try.underlying5 b o n c (bs.map fun u => (u.toNat : Int)) (by simp [h.1])
      (fun i hi => by rw [hc i hi, List.getD_eq_getElem?_getD, List.getElem?_map, List.getElem?_eq_getElem (by rw [h.1]; exact hi)]; rfl) _ Try.underlying9
    rw [strOf_bytes] at this
    exact this

end Go.Proofs.Ytlinlmimakealaa

namespace Go.Proofs.Ytlinlmimakealaa
open Go.RowKit

/-- What Decode tells. -/
def DecRes (w w' : World) (b : List UInt8) (e : Ending) : Prop :=
  ∃ v, e = .returned (.tuple #[v, .int .i64 (dpU b : Nat), .int .i64 (dpE b)]) ∧ OP w' w.heap.size v (dpL b) ∧ Grow w w'
theorem DecRes.bad {w w' : World} {b : List UInt8} {x : Int} (h : dpE b = x) (h0 : x ≠ 0) (g : Grow w w') : DecRes w w' b (.returned (.tuple #[.slice none 0 0, .int .i64 0, .int .i64 x])) := by
  subst h
  refine ⟨.slice none 0 0, ?_, ?_, g⟩
  · rw [dpU, if_neg h0]; rfl
  · rw [dpL, if_neg h0]; exact OP.nil _ _
/-- The rest of the patches, told from one on. -/
def DecLink (b : List UInt8) (N i a : Nat) (L : List PT) : Prop :=
  rdE b (N - i) a = rdE b N 2 ∧ rdZ b (N - i) a = rdZ b N 2 ∧ L ++ rdL b (N - i) a = rdL b N 2
theorem DecLink.start (b : List UInt8) (N : Nat) : DecLink b N 0 2 [] := ⟨rfl, rfl, rfl⟩
theorem DecLink.step {b : List UInt8} {N i a : Nat} {L : List PT} (h : DecLink b N i a L) (hi : i < N) (h1 : a + 6 + ptK b a ≤ b.length) (h2 : ptK b a ≤ 256) : DecLink b N (i + 1) (a + 6 + ptK b a) (L ++ [ptAt b a]) := by
  obtain ⟨q1, q2, q3⟩ := h
  have hs : N - i = (N - (i + 1)) + 1 := by omega
  rw [hs] at q1 q2 q3
  refine ⟨?_, q2, ?_⟩
  · rw [← q1, rdE_step h1 h2]
  · rw [← q3, rdL, List.append_assoc]; rfl
theorem DecLink.short {b : List UInt8} {N i a : Nat} {L : List PT} (h : DecLink b N i a L) (hi : i < N) (h1 : b.length < a + 6) : rdE b N 2 = 3 := by
  rw [← h.1, show N - i = (N - (i + 1)) + 1 by omega, rdE, if_pos h1]
theorem DecLink.odd {b : List UInt8} {N i a : Nat} {L : List PT} (h : DecLink b N i a L) (hi : i < N) (h1 : a + 6 ≤ b.length) (h2 : 256 < ptK b a) : rdE b N 2 = 2 := by
  rw [← h.1, show N - i = (N - (i + 1)) + 1 by omega, rdE, if_neg (by omega), if_pos h2]
theorem DecLink.less {b : List UInt8} {N i a : Nat} {L : List PT} (h : DecLink b N i a L) (hi : i < N) (h1 : a + 6 ≤ b.length) (h2 : ptK b a ≤ 256) (h3 : b.length < a + 6 + ptK b a) : rdE b N 2 = 3 := by
  rw [← h.1, show N - i = (N - (i + 1)) + 1 by omega, rdE, if_neg (by omega), if_neg (by omega), if_pos h3]
theorem DecLink.done {b : List UInt8} {N a : Nat} {L : List PT} (h : DecLink b N N a L) : rdE b N 2 = 0 ∧ rdZ b N 2 = a ∧ L = rdL b N 2 := by
  obtain ⟨q1, q2, q3⟩ := h
  rw [Nat.sub_self] at q1 q2 q3
  refine ⟨q1.symm, q2.symm, ?_⟩
  rw [← q3, rdL]; simp
theorem dpE_rd {b : List UInt8} {x : Int} (h2 : 2 ≤ b.length) (hn : dpN b ≤ 64) (h : rdE b (dpN b) 2 = x) (h0 : x ≠ 0) : dpE b = x := by
  rw [dpE, if_neg (by omega), if_neg (by omega), if_pos (by rw [h]; exact h0), h]
theorem getK_out {b : List UInt8} {a : Nat} {wd : Nat} (h : b.length < a + wd) : getK b (a : Int) (wd : Int) = false := by
  refine (get_none ?_).2
  rintro ⟨-, -, h3⟩
  omega
theorem dpN_get (b : List UInt8) : getN b 0 2 = (dpN b : Int) := by have := (get_any b 0 2).1; unfold dpN; omega
theorem ptK_get (b : List UInt8) (a : Nat) : getN b ((a : Int) + 4) 2 = (ptK b a : Int) := by
  have := (get_any b ((a + 4 : Nat) : Int) 2).1
  unfold ptK
  rw [show ((a + 4 : Nat) : Int) = (a : Int) + 4 by simp] at this ⊢
  omega
theorem getK4 {b : List UInt8} {a : Nat} (h : a + 4 ≤ b.length) : getK b (a : Int) 4 = true := getK_small (b := b) (a := a) (wd := 4) (.inr (.inr rfl)) h
theorem getK2 {b : List UInt8} {a : Nat} (h : a + 6 ≤ b.length) : getK b ((a : Int) + 4) 2 = true := by
  have := getK_small (b := b) (a := a + 4) (wd := 2) (.inr (.inl rfl)) (by omega)
  rwa [show ((a + 4 : Nat) : Int) = (a : Int) + 4 by simp] at this
theorem getK2_out {b : List UInt8} {a : Nat} (h : b.length < a + 6) : getK b ((a : Int) + 4) 2 = false := by
  have := getK_out (b := b) (a := a + 4) (wd := 2) (by omega)
  rwa [show ((a + 4 : Nat) : Int) = (a : Int) + 4 by simp] at this

theorem wrap_smallR {k : Nat} (h : k < 64) : wrap64 ((k : Int) + 1) = (k : Int) + 1 := IntWalk.wrap64_in _ (by omega)
theorem measR {M k : Nat} (h : k < M) : M - (intOf (.int .i64 ((k : Int) + 1))).toNat < M - (intOf (.int .i64 (k : Int))).toNat := by simp [intOf]; omega
theorem measRW {M k : Nat} (h : k < M) (e : wrap64 ((k : Int) + 1) = (k : Int) + 1) : M - (intOf (.int .i64 (wrap64 ((k : Int) + 1)))).toNat < M - (intOf (.int .i64 (k : Int))).toNat := by rw [e]; exact measR h

def FillJ (a f : Nat) (t : Value) : Prop := ∃ j : Nat, j ≤ f ∧ t = .int .i64 ((a + j : Nat) : Int)
def ZerInv (b : List UInt8) (a m : Nat) (t : Value) : Prop := ∃ k : Nat, t = .int .i64 (k : Int) ∧ a ≤ k ∧ k ≤ m ∧ ∀ i, a ≤ i → i < k → b.getD i 0 = 0

/-- What holds at each round over the patches. -/
def DecInv (w wr : World) (b : List UInt8) (N : Nat) (ta tl ti : Value) : Prop := ∃ (i a : Nat) (L : List PT), ti = .int .i64 (i : Int) ∧ ta = .int .i64 (a : Int) ∧ i ≤ N ∧ a ≤ b.length ∧ L.length = i ∧ DecLink b N i a L ∧ OP wr w.heap.size tl L ∧ Grow w wr

theorem rl_decode_early {w : World} {A : Option Addr} {n c : Nat} {b : List UInt8} (hs : Sl w A n b) (h : n < 2 ∨ 64 < dpN b) :
    Calls Try.prog 86 #[.slice A n c] w fun e w' => DecRes w w' b e := by
  have HL := Lib.hid hs.1
  have HN := Lib.hid (dpN_get b)
  have hb := dpN_lt b
  by_cases h2 : n < 2
  · have HE := Lib.hid (show dpE b = 3 by rw [dpE, if_pos (by rw [HL.out]; exact h2)])
    have HK := Lib.hid (show getK b 0 2 = false from getK_out (b := b) (a := 0) (wd := 2) (by rw [HL.out]; omega))
    go_enter Try.func86, Try.ntmps86
    go_wp2_with fail
    refine (rget_s (at_ := 0) (x := 2) hs (by decide) (by decide)).mono ?_
    rintro e w1 ⟨rfl, rfl⟩
    rw [HK.out]
    go_wp2_with fail
    go_ret3
    exact .bad HE.out (by decide) (Grow.refl _)
  · have h64 : 64 < dpN b := by rcases h with h | h; exact absurd h h2; exact h
    have HE := Lib.hid (show dpE b = 2 by rw [dpE, if_neg (by rw [HL.out]; omega), if_pos h64])
    have HK := Lib.hid (show getK b 0 2 = true from getK_small (b := b) (a := 0) (wd := 2) (.inr (.inl rfl)) (by rw [HL.out]; omega))
    obtain ⟨N, hN⟩ : ∃ N, N = dpN b := ⟨_, rfl⟩
    rw [← hN] at h64 HN hb
    have z1 : decide ((64 : Int) < (N : Int)) = true := decide_eq_true (by omega)
    clear h hN
    go_enter Try.func86, Try.ntmps86
    go_wp2_with fail
    refine (rget_s (at_ := 0) (x := 2) hs (by decide) (by decide)).mono ?_
    rintro e w1 ⟨rfl, rfl⟩
    rw [HK.out, HN.out]
    go_wp2_with fail
    go_ret3
    exact .bad HE.out (by decide) (Grow.refl _)

set_option maxHeartbeats 4000000 in
set_option maxRecDepth 8000 in
theorem rl_decode_go {w : World} {A : Option Addr} {n c : Nat} {b : List UInt8} (hs : Sl w A n b) (hc : n ≤ c) (h2 : 2 ≤ n) (h64 : dpN b ≤ 64) :
    Calls Try.prog 86 #[.slice A n c] w fun e w' => DecRes w w' b e := by
  have HL := Lib.hid hs.1
  have HN := Lib.hid (dpN_get b)
  have HK := Lib.hid (show getK b 0 2 = true from getK_small (b := b) (a := 0) (wd := 2) (.inr (.inl rfl)) (by rw [HL.out]; omega))
  have hnb : n ≤ 1073741000 := hs.2.1
  obtain ⟨N, hN⟩ : ∃ N, N = dpN b := ⟨_, rfl⟩
  rw [← hN] at h64 HN
  have HNN := Lib.hid hN
  have HS := Lib.hid hs
  have HRD := Lib.hid (show ∀ x : Int, rdE b N 2 = x → x ≠ 0 → dpE b = x from fun x hx h0 => dpE_rd (by rw [HL.out]; exact h2) (by rw [← hN]; exact h64) (by rw [← hN]; exact hx) h0)
  have z1 : decide ((64 : Int) < (N : Int)) = false := decide_eq_false (by omega)
  obtain ⟨g, o, rfl, hg0, hcell⟩ := hs.all (by omega)
  have HC := Lib.hid (show ∀ k, k < n → w.cell? ⟨g, o + k, none⟩ = some (.int .u8 ((b.getD k 0).toNat : Int)) from fun k hk => by
    rw [hcell k hk, List.getD_eq_getElem?_getD, List.getElem?_eq_getElem (by rw [HL.out]; exact hk)]; rfl)
  clear hN hcell hs
  go_enter Try.func86, Try.ntmps86
  go_wp2_with fail
  refine (rget_s (at_ := 0) (x := 2) HS.out (by decide) (by decide)).mono ?_
  rintro e w1 ⟨rfl, rfl⟩
  rw [HK.out, HN.out]
  go_wp2_with fail
  go_loopw [7, 8, 9] (fun ta tl ti wr => DecInv w wr b N ta tl ti) (fun _ _ ti _ => N - (intOf ti).toNat)
  case atStart => exact ⟨0, 2, [], rfl, rfl, Nat.zero_le _, by rw [HL.out]; exact h2, rfl, DecLink.start _ _, OP.nil _ _, Grow.refl _⟩
  case round =>
    obtain ⟨i, a, L, rfl, rfl, hi, ha, hLi, hlk, hop, hg⟩ := hrel
    rw [HL.out] at ha
    have HLK := Lib.hid hlk
    have HG := Lib.hid hg
    have HOP := Lib.hid hop
    have HLI := Lib.hid hLi
    clear hlk hg hop hLi
    by_cases hlt : i < N
    · go_wp2_with fail
      refine (rget_s (at_ := (a : Int)) (x := 4) (HS.out.keep HG.out) (by omega) (by omega)).mono ?_
      rintro e w' ⟨rfl, rfl⟩
      obtain ⟨x0, X0⟩ : ∃ x, Hid (x = getN b (a : Int) 4) := ⟨_, Lib.hid rfl⟩
      obtain ⟨s0, S0⟩ : ∃ x, Hid (x = getK b (a : Int) 4) := ⟨_, Lib.hid rfl⟩
      rw [← X0.out, ← S0.out]
      go_wp2_with fail
      refine (rget_s (at_ := (a : Int) + 4) (x := 2) (HS.out.keep HG.out) (by omega) (by omega)).mono ?_
      rintro e w' ⟨rfl, rfl⟩
      obtain ⟨s1, S1⟩ : ∃ x, Hid (x = getK b ((a : Int) + 4) 2) := ⟨_, Lib.hid rfl⟩
      obtain ⟨k, K0⟩ : ∃ k, Hid (k = ptK b a) := ⟨_, Lib.hid rfl⟩
      rw [ptK_get, ← K0.out, ← S1.out]
      by_cases h6 : n < a + 6
      · have HE := Lib.hid (HRD.out 3 (HLK.out.short hlt (by rw [HL.out]; exact h6)) (by decide))
        have hs1 : s1 = false := by rw [S1.out]; exact getK2_out (by rw [HL.out]; exact h6)
        subst hs1
        cases s0
        · go_wp2_with fail
          go_ret3
          exact .bad HE.out (by decide) HG.out
        · go_wp2_with fail
          go_ret3
          exact .bad HE.out (by decide) HG.out
      · have hs1 : s1 = true := by rw [S1.out]; exact getK2 (by rw [HL.out]; omega)
        have hs0 : s0 = true := by rw [S0.out]; exact getK4 (by rw [HL.out]; omega)
        subst hs1 hs0
        obtain ⟨a6, e6⟩ : ∃ a6 : Nat, (a : Int) + 6 = (a6 : Int) := ⟨a + 6, by simp⟩
        have ha6 : a6 = a + 6 := by omega
        have hkl := ptK_lt b a
        rw [← K0.out] at hkl
        by_cases hk : 256 < k
        · have HE := Lib.hid (HRD.out 2 (HLK.out.odd hlt (by rw [HL.out]; omega) (by rw [← K0.out]; exact hk)) (by decide))
          have y1 : decide (256 < k) = true := decide_eq_true hk
          have y2 : decide ((256 : Int) < (k : Int)) = true := decide_eq_true (by omega)
          clear e6 ha6
          go_wp2_with fail
          go_ret3
          exact .bad HE.out (by decide) HG.out
        · have y1 : decide (256 < k) = false := decide_eq_false hk
          have y2 : decide ((256 : Int) < (k : Int)) = false := decide_eq_false (by omega)
          by_cases h7 : n < a6 + k
          · have HE := Lib.hid (HRD.out 3 (HLK.out.less hlt (by rw [HL.out]; omega) (by rw [← K0.out]; omega) (by rw [← K0.out, HL.out]; omega)) (by decide))
            have y3 : decide ((n : Int) - (a6 : Int) < (k : Int)) = true := decide_eq_true (by omega)
            clear ha6
            go_wp2_with fail
            go_ret3
            exact .bad HE.out (by decide) HG.out
          · have y3 : decide ((n : Int) - (a6 : Int) < (k : Int)) = false := decide_eq_false (by omega)
            obtain ⟨z, ez⟩ : ∃ z : Nat, (a6 : Int) + (k : Int) = (z : Int) := ⟨a6 + k, by simp⟩
            have hz : z = a6 + k := by omega
            have i1 : a6 ≤ z := by omega
            have i2 : z ≤ c := by omega
            have i3 : z ≤ n := by omega
            have i4 : a6 ≤ c := by omega
            have zk : z - a6 = k := by omega
            have HST := Lib.hid (HLK.out.step hlt (by rw [← K0.out, HL.out]; omega) (by rw [← K0.out]; omega))
            obtain ⟨r, hr⟩ : ∃ r, r = ptAt b a := ⟨_, rfl⟩
            have hr0 : r.pos = x0 := by rw [hr, X0.out]; rfl
            have HX := Lib.hid (show a + 6 + ptK b a = z by rw [← K0.out]; omega)
            rw [HX.out, ← hr] at HST
            have hsd := ((HS.out.keep HG.out).drop (k := a6) (c := c) (by omega) hc).take (k := k) (by omega)
            have hsv : ((b.drop a6).take k).toArray = r.dat.data := by rw [hr, ptAt, K0.out, ha6]
            have HSZ := Lib.hid HG.out.size
            have cv : ∀ c', (convert 22 9 (.slice (if c = a6 then some ⟨g, o, none⟩ else (some (⟨g, o, none⟩ : Addr)).map (·.add a6)) k c')).run Try.prog wr = .ok (.string r.dat) wr := fun c' => by
              have := conv_s (c := c') hsd
              rwa [hsv] at this
            have HLL := Lib.hid (show L.length + 1 ≤ 1000000 by rw [HLI.out]; omega)
            subst hr0
            clear hr hsv hsd ha6 hz
            by_cases hca : c = a6
            · simp only [if_pos hca] at cv
              go_wp2_with (at_builtin; refine wpList_appP1 rfl (.tmp 61) (.tmp 71) rfl w.heap.size _ L rfl r (by first | rfl | simp) HOP.out HLL.out HSZ.out ?_; intro v2 w2 q1 q2)
              have X : DecInv w w2 b N (.int .i64 (z : Int)) v2 (.int .i64 ((i : Int) + 1)) := ⟨i + 1, z, L ++ [r], by simp, rfl, hlt, by rw [HL.out]; exact i3, by simp [HLI.out], HST.out, q1, HG.out.low q2⟩
              have e5 := wrap_smallR (show i < 64 by omega)
              clear q1 q2 cv ez e6
              try rw [← hca]
              clear hca
              go_roundw
              case rel => (try rw [e5]); first | exact X | ((repeat apply Exists.intro); exact X) | ((repeat apply Exists.intro); refine ⟨X, ?_⟩; rfl)
              case measure => first | exact measR hlt | exact measRW hlt e5
            · simp only [if_neg hca, Option.map_some, Addr.add_lit] at cv
              go_wp2_with (at_builtin; refine wpList_appP1 rfl (.tmp 61) (.tmp 71) rfl w.heap.size _ L rfl r (by first | rfl | simp) HOP.out HLL.out HSZ.out ?_; intro v2 w2 q1 q2)
              have X : DecInv w w2 b N (.int .i64 (z : Int)) v2 (.int .i64 ((i : Int) + 1)) := ⟨i + 1, z, L ++ [r], by simp, rfl, hlt, by rw [HL.out]; exact i3, by simp [HLI.out], HST.out, q1, HG.out.low q2⟩
              have e5 := wrap_smallR (show i < 64 by omega)
              clear q1 q2 cv ez e6
              try rw [← hca]
              clear hca
              go_roundw
              case rel => (try rw [e5]); first | exact X | ((repeat apply Exists.intro); exact X) | ((repeat apply Exists.intro); refine ⟨X, ?_⟩; rfl)
              case measure => first | exact measR hlt | exact measRW hlt e5
    · obtain rfl : i = N := by omega
      obtain ⟨d1, d2, d3⟩ := HLK.out.done
      have HRE := Lib.hid d1
      have HZ := Lib.hid (show dpZ b = a by rw [dpZ, ← HNN.out]; exact d2)
      have HLR := Lib.hid (show L = rdL b (dpN b) 2 by rw [← HNN.out]; exact d3)
      have HE0 := Lib.hid (show dpE b = if b.length < a + 4 then 3 else if getN b (a : Int) 4 ≠ (crcN (b.take a) : Nat) then 4 else if b.length < dpF b then 3 else if zerosB b (a + 4) (dpF b) = true then 0 else 2 by
        rw [dpE, if_neg (by rw [HL.out]; omega), if_neg (by rw [← HNN.out]; omega), if_neg (by rw [← HNN.out, HRE.out]; simp), HZ.out])
      have HFF := Lib.hid (show dpF b = a + 4 + fillN (a + 4) by rw [dpF, HZ.out])
      clear d1 d2 d3
      go_wp2_with fail
      refine (rget_s (at_ := (a : Int)) (x := 4) (HS.out.keep HG.out) (by omega) (by omega)).mono ?_
      rintro e w' ⟨rfl, rfl⟩
      obtain ⟨x0, X0⟩ : ∃ x, Hid (x = getN b (a : Int) 4) := ⟨_, Lib.hid rfl⟩
      rw [← X0.out]
      by_cases h4 : n < a + 4
      · have HKK := Lib.hid (show getK b (a : Int) 4 = false from getK_out (wd := 4) (by rw [HL.out]; exact h4))
        have HE := Lib.hid (show dpE b = 3 by rw [HE0.out, if_pos (by rw [HL.out]; exact h4)])
        rw [HKK.out]
        go_wp2_with fail
        go_ret3
        exact .bad HE.out (by decide) HG.out
      · have HKK := Lib.hid (show getK b (a : Int) 4 = true from getK4 (by rw [HL.out]; omega))
        rw [HKK.out]
        have HE1 := Lib.hid (show dpE b = if getN b (a : Int) 4 ≠ (crcN (b.take a) : Nat) then 4 else if b.length < dpF b then 3 else if zerosB b (a + 4) (dpF b) = true then 0 else 2 by rw [HE0.out, if_neg (by rw [HL.out]; exact h4)])
        have i1 : a ≤ c := by omega
        clear HE0 HKK
        go_wp2_with fail
        refine (rsum_s ((HS.out.keep HG.out).take (k := a) (by omega))).mono ?_
        rintro e w3 ⟨q, rfl, hq, hq1, rfl⟩
        by_cases hsum : x0 = (q : Int)
        · have hne : (x0 != (q : Int)) = false := by rw [bne_eq_false_iff_eq]; exact hsum
          have HE2 := Lib.hid (show dpE b = if b.length < dpF b then 3 else if zerosB b (a + 4) (dpF b) = true then 0 else 2 by rw [HE1.out, if_neg (by rw [← X0.out, hsum, hq.out]; simp)])
          have HNE := Lib.hid hne
          clear hsum hq HE1
          obtain ⟨f, hf⟩ : ∃ f, f = fillN (a + 4) := ⟨_, rfl⟩
          have hf8 : f < 8 ∧ (a + 4 + f) % 8 = 0 ∧ ∀ j, j < f → (a + 4 + j) % 8 ≠ 0 := by
            rw [hf, fillN]
            refine ⟨by omega, by omega, ?_⟩
            intro j hj
            omega
          obtain ⟨a4, e4⟩ : ∃ a4 : Nat, (a : Int) + 4 = (a4 : Int) := ⟨a + 4, by simp⟩
          have ha4 : a + 4 = a4 := by omega
          rw [ha4] at hf8 HE2 HFF hf
          rw [← hf] at HFF
          have HF8 := Lib.hid hf8
          have HA4 := Lib.hid ha4
          have ha4n : a4 ≤ n := by omega
          clear hf hf8 ha4 h4
          go_wp2_with fail
          clear e4
          go_loopw [16] (fun t wr' => FillJ a4 f t ∧ wr' = wr) (fun t _ => a4 + f - (intOf t).toNat)
          case atStart => exact ⟨⟨0, Nat.zero_le _, rfl⟩, rfl⟩
          case round =>
            obtain ⟨⟨j, hj, rfl⟩, rfl⟩ := hrel
            obtain ⟨M, hM⟩ : ∃ M, M = a4 + j := ⟨_, rfl⟩
            rw [← hM]
            have hMb : M ≤ 1073741100 := by have := HF8.out.1; omega
            by_cases hjf : j < f
            · have hne := HF8.out.2.2 j hjf
              rw [← hM] at hne
              have hne1 : ((M : Int) % 8 != 0) = true := by simp; omega
              have X : FillJ a4 f (.int .i64 ((M : Int) + 1)) ∧ wr = wr := ⟨⟨j + 1, hjf, by rw [hM]; simp [Int.add_assoc]⟩, rfl⟩
              have HX := Lib.hid X
              have hms : a4 + f - (intOf (.int .i64 ((M : Int) + 1))).toNat < a4 + f - (intOf (.int .i64 (M : Int))).toNat := by simp [intOf]; omega
              have HMS := Lib.hid hms
              clear hne X hms hM
              go_wp2_with fail
              go_roundw
              case rel => first | exact HX.out | exact ⟨HX.out.1, trivial⟩ | exact HX.out.1
              case measure => exact HMS.out
            · obtain rfl : j = f := by omega
              have hne := HF8.out.2.1
              rw [← hM] at hne
              have hne1 : ((M : Int) % 8 != 0) = false := by simp; omega
              rw [← hM] at HFF
              have hMa : a4 ≤ M := by omega
              clear hne hM hjf hj
              by_cases hnM : n < M
              · have HE := Lib.hid (show dpE b = 3 by rw [HE2.out, if_pos (by rw [HL.out, HFF.out]; exact hnM)])
                have y1 : decide (n < M) = true := decide_eq_true hnM
                have y2 : decide ((n : Int) < (M : Int)) = true := decide_eq_true (by omega)
                go_wp2_with fail
                go_ret3
                exact .bad HE.out (by decide) HG.out
              · have HE3 := Lib.hid (show dpE b = if zerosB b a4 M = true then 0 else 2 by rw [HE2.out, if_neg (by rw [HL.out, HFF.out]; exact hnM), HFF.out])
                have y1 : decide (n < M) = false := decide_eq_false hnM
                have y2 : decide ((n : Int) < (M : Int)) = false := decide_eq_false (by omega)
                clear HE2
                go_wp2_with fail
                go_loopw [17] (fun t wr' => ZerInv b a4 M t ∧ wr' = wr) (fun t _ => M - (intOf t).toNat)
                case atStart => exact ⟨⟨a4, rfl, Nat.le_refl _, hMa, fun i h1 h2 => by omega⟩, rfl⟩
                case round =>
                  obtain ⟨⟨k, rfl, hk1, hk2, hz⟩, rfl⟩ := hrel
                  have HZZ := Lib.hid hz
                  clear hz
                  by_cases hkM : k < M
                  · have hc := HG.out.cell (HC.out k (by omega))
                    obtain ⟨u, hu⟩ : ∃ u : Int, u = ((b.getD k 0).toNat : Int) := ⟨_, rfl⟩
                    rw [← hu] at hc
                    have HU := Lib.hid hu
                    have z5 : decide ((k : Int) < (M : Int)) = true := decide_eq_true (by omega)
                    have hkn : k < n := by omega
                    clear hu
                    by_cases h0 : u = 0
                    · have h0' : (u != 0) = false := by rw [bne_eq_false_iff_eq]; exact h0
                      have X : ZerInv b a4 M (.int .i64 ((k : Int) + 1)) := ⟨k + 1, by simp, by omega, hkM, fun i h1 h2 => by
                        by_cases e : i = k
                        · subst e
                          apply UInt8.toNat_inj.1
                          have := HU.out
                          rw [h0] at this
                          simp at this ⊢
                          omega
                        · exact HZZ.out i h1 (by omega)⟩
                      have HX := Lib.hid X
                      have HMS := Lib.hid (show M - (intOf (.int .i64 ((k : Int) + 1))).toNat < M - (intOf (.int .i64 (k : Int))).toNat from measR hkM)
                      have HU0 := Lib.hid h0
                      clear X h0
                      go_wp2_with fail
                      go_roundw
                      case rel => first | exact ⟨HX.out, rfl⟩ | exact ⟨HX.out, trivial⟩ | exact HX.out
                      case measure => exact HMS.out
                    · have h0' : (u != 0) = true := by rw [bne_iff_ne]; exact h0
                      have HE := Lib.hid (show dpE b = 2 by
                        rw [HE3.out, if_neg]
                        intro q
                        rw [zeros_iff (by rw [HL.out]; omega)] at q
                        have := q k hk1 hkM
                        apply h0
                        rw [HU.out, List.getD_eq_getElem?_getD, List.getElem?_eq_getElem (by rw [HL.out]; exact hkn)]
                        simp [this])
                      clear h0
                      go_wp2_with fail
                      go_ret3
                      exact .bad HE.out (by decide) HG.out
                  · obtain rfl : k = M := by omega
                    have HE := Lib.hid (show dpE b = 0 by
                      rw [HE3.out, if_pos]
                      rw [zeros_iff (by rw [HL.out]; omega)]
                      intro i h1 h2
                      have := HZZ.out i h1 h2
                      rw [List.getD_eq_getElem?_getD, List.getElem?_eq_getElem (by rw [HL.out]; omega)] at this
                      simpa using this)
                    have z5 : decide ((k : Int) < (k : Int)) = false := decide_eq_false (by omega)
                    go_wp2_with fail
                    go_ret3
                    refine ⟨_, ?_, (by rw [dpL, if_pos HE.out, ← HLR.out]; exact HOP.out), HG.out⟩
                    rw [HE.out, dpU, if_pos HE.out, HFF.out]; rfl
        · have hne : (x0 != (q : Int)) = true := by rw [bne_iff_ne]; exact hsum
          have HE := Lib.hid (show dpE b = 4 by rw [HE1.out, if_pos (by rw [← X0.out, ← hq.out]; exact hsum)])
          clear hsum
          go_wp2_with fail
          go_ret3
          exact .bad HE.out (by decide) HG.out

theorem rl_decode {w : World} {A : Option Addr} {n c : Nat} {b : List UInt8} (hs : Sl w A n b) (hc : n ≤ c) :
    Calls Try.prog 86 #[.slice A n c] w fun e w' => DecRes w w' b e := by
  by_cases h : n < 2 ∨ 64 < dpN b
  · exact rl_decode_early hs h
  · exact rl_decode_go hs hc (by omega) (by omega)
end Go.Proofs.Ytlinlmimakealaa
