/- commonsref08.Log: Append. commonsref08.SamePatches, SameRecords. commonsref08.Log: Redo. commonsref03.New. No statement of the seat is proved here. -/
import Derived.Test.YtlinlmimakealaaZ15
import Derived.Test.YtlinlmimakealaaZ11
import Derived.Deep.QuietTactic
import Derived.BigQuiet
import Derived.Deep.RegionHeld3
import Derived.Test.YtlinlmimakealaaZ14
import Derived.Test.YtlinlmimakealaaZ06
import Derived.Test.YtlinlmimakealaaZ13
namespace Go.Proofs.Ytlinlmimakealaa
open Go.RowKit

theorem rput_end {w : World} (U m : Nat) (h : U + m ≤ 2000) : Calls Try.prog 20 #[.slice none 0 0, .int .i64 ((U : Int) + (m : Int)), .int .i64 8] w fun e w' => ∃ A' c', e = .returned (.slice A' 8 c') ∧ Own w' w.heap.size A' 8 c' (leB (U + m) 8) ∧ Grow w w' := by
  refine (rput_s (n := 0) (bs := []) 8 Sl.nil (fits_small8 (by omega) (by omega)) (by omega) rfl (by omega)).mono ?_
  rintro e w' ⟨A', c', rfl, o, g⟩
  rw [List.nil_append, show ((U : Int) + (m : Int)).toNat = U + m by omega] at o
  exact ⟨A', c', rfl, o, g⟩

set_option maxHeartbeats 4000000 in
set_option maxRecDepth 8000 in
theorem rl_append {w : World} {l : Nat} {x : MB} {s : MS} (h : RL w l x s) {A : Option Addr} {n c : Nat} {L : List PT} (hr : RP w A n L) (hw : ∀ p ∈ L, p.wide) :
    Calls Try.prog 68 #[.pointer (some ⟨l, 0, none⟩), .slice A n c] w fun e w' => e = .returned (.int .i64 (apE s.S L)) ∧ RL w' l x (s.append L) ∧ Turn x.F w w' := by
  have H := Lib.hid h
  have HR := Lib.hid hr
  have HW := Lib.hid hw
  have HLT := Lib.hid h.1.lt
  clear h hr hw
  go_enter Try.func68, Try.ntmps68
  go_wp2_with fail
  refine (rl_encode HR.out HW.out).mono ?_
  rintro e w1 (⟨hm, A1, c1, rfl, o1, g1⟩ | ⟨hm, rfl, g1⟩)
  · obtain ⟨bs, hbs⟩ : ∃ bs, bs = encP L := ⟨_, rfl⟩
    obtain ⟨m, hmm⟩ : ∃ m, m = bs.length := ⟨_, rfl⟩
    have hm8 := encP_mod L
    have hml := encP_le hm
    rw [← hbs, ← hmm] at o1 hm8 hml
    have m1 := hm8.2
    obtain ⟨U, hU⟩ : ∃ U, U = lgU s.S := ⟨_, rfl⟩
    have hU5 : U ≤ 504 := by rw [hU]; exact lgU_le
    have HM := Lib.hid hm
    have HO := Lib.hid o1
    have HG := Lib.hid g1
    have HBS := Lib.hid hbs
    have HMM := Lib.hid hmm
    have HUU := Lib.hid hU
    have H1 := Lib.hid (H.out.keep g1)
    rw [← hbs, ← hmm]
    clear hm o1 g1 hm8 hmm hbs hU
    go_wp2_with fail
    refine (rl_read H1.out).mono ?_
    rintro e w2 ⟨vr, Rr, rfl, -, -, g2⟩
    rw [← HUU.out]
    have H2 := Lib.hid (H1.out.keep g2)
    have HG2 := Lib.hid (HG.out.trans g2)
    have HO2 := Lib.hid (show Own w2 w.heap.size A1 m c1 bs from ⟨HO.out.1, HO.out.2.1, World.ownsRow.kept HO.out.2.2 g2.grown (own_none _)⟩)
    have c1 := H2.out.2.1.c3.2.1
    have c2 := H2.out.2.1.c3.2.2
    clear g2
    by_cases hf : 504 < U + m
    · have z1 : decide ((504 : Int) < (U : Int) + (m : Int)) = true := decide_eq_true (by omega)
      have z2 : decide (504 < U + m) = true := decide_eq_true hf
      have HE := Lib.hid (show apE s.S L = 5 by rw [apE, if_pos HM.out, ← HUU.out, ← HBS.out, ← HMM.out, if_pos hf])
      clear hf
      go_wp2_with fail
      go_ret
      exact ⟨ret_int (by rw [HE.out]), by rw [MS.append, if_neg (by rw [HE.out]; simp)]; exact H2.out, Turn.grow HG2.out _⟩
    · have z1 : decide ((504 : Int) < (U : Int) + (m : Int)) = false := decide_eq_false (by omega)
      have z2 : decide (504 < U + m) = false := decide_eq_false hf
      have hUm : U + m ≤ 504 := by omega
      have HE := Lib.hid (show apE s.S L = 0 by rw [apE, if_pos HM.out, ← HUU.out, ← HBS.out, ← HMM.out, if_neg hf])
      clear hf
      go_wp2_with fail
      refine (rl_keep H2.out HO2.out.sl (HO2.out.out HLT.out) _).mono ?_
      rintro e w3 ⟨rfl, h3, t3⟩
      have H3 := Lib.hid h3
      have HT3 := Lib.hid ((Turn.grow HG2.out x.F).and t3)
      have d1 := h3.2.1.c3.2.1
      clear h3 t3 c1 c2
      go_wp2_with fail
      have HA : ∀ w4 A4 c4, Own w4 w3.heap.size A4 8 c4 (leB (U + m) 8) → Grow w3 w4 → ∀ w5, Grow w4 w5 → Calls Try.prog 78 #[.pointer (some ⟨l, 0, none⟩), .int .i64 512, .slice A4 8 c4] w5 fun e w' => e = .returned (.tuple #[]) ∧ RL w' l x (s.append L) ∧ Turn x.F w w' := by
        intro w4 A4 c4 o4 g4 w5 g5
        have hx : ∀ k, x.F k → k < w3.heap.size := H3.out.1.lt
        refine (rl_keep (H3.out.keep (g4.trans g5)) (o4.sl.keep g5) (o4.out hx) 512).mono ?_
        rintro e w' ⟨rfl, h5, t5⟩
        refine ⟨rfl, ?_, (HT3.out.and (Turn.grow (g4.trans g5) _)).and t5⟩
        rw [MS.append, if_pos HE.out, ← HUU.out, ← HBS.out, ← HMM.out]
        exact h5
      have HAA := Lib.hid HA
      have y1 : IntKind.i64.wrap ((U : Int) + (m : Int)) = (U : Int) + (m : Int) := IntWalk.i64_in _ (by omega)
      clear HA
      go_region_held3 (fun w' => w'.cell? ⟨l, 1, none⟩ = some (.int .i64 512)) (first | exact d1 | exact f1 | exact g1) ((first
        | (go_at_call 20; refine (rput_end U m (by omega)).mono ?_; rintro e w4 ⟨A4, c4, rfl, o4, g4⟩; have G4 : Grow w3 w4 := Grow.trans (by (repeat (first | exact Grow.refl _ | refine Grow.drew ?_ | refine Grow.drewN ?_ _))) g4; have o4' := o4.low (B := w3.heap.size) (Nat.le_refl _); have f1 := G4.cell d1)
        | (go_at_call 78; refine (HAA.out w4 A4 c4 o4' G4 _ ?_).mono ?_; (repeat (first | exact Grow.refl _ | refine Grow.drew ?_ | refine Grow.drewN ?_ _)); rintro e w6 ⟨rfl, h6, t6⟩; have g1 := h6.2.1.c3.2.1)))
      all_goals
        clear g1
        have H6 := Lib.hid h6
        have HT6 := Lib.hid t6
        clear h6 t6
        go_wp2_with fail
        go_ret
        exact ⟨ret_int (by rw [HE.out]), H6.out, HT6.out⟩
  · have HE := Lib.hid (show apE s.S L = 1 by rw [apE, hm]; rfl)
    have HG := Lib.hid g1
    clear hm g1
    go_wp2_with fail
    go_ret
    exact ⟨ret_int (by rw [HE.out]), by rw [MS.append, if_neg (by rw [HE.out]; simp)]; exact H.out.keep HG.out, Turn.grow HG.out _⟩
end Go.Proofs.Ytlinlmimakealaa

namespace Go.Proofs.Ytlinlmimakealaa
open Go.RowKit

set_option maxHeartbeats 1000000 in
theorem pats_same {A A' : Option Addr} {n c c' : Nat} {L : List PT} {w : World} (hx : RP w A n L) (hy : RP w A' n L) (hn : n ≤ 60000) :
    Calls Try.prog 54 #[.slice A n c, .slice A' n c'] w fun e w' => e = .returned (.bool true) ∧ ∃ k, w' = w.drewN k := by
  have k0 : ((n : Int) != (n : Int)) = false := by simp
  go_enter Try.func54, Try.ntmps54
  go_wp2_with fail
  go_loopw [5] (fun i wr => ∃ k m : Nat, k ≤ n ∧ i = .int .i64 k ∧ wr = w.drewN m) (fun i _ => n - (intOf i).toNat)
  case atStart => exact ⟨0, 0, Nat.zero_le _, rfl, rfl⟩
  case round =>
    obtain ⟨k, m, hk, rfl, rfl⟩ := hrel
    by_cases hlt : k < n
    · obtain ⟨b, o, r, hr, rfl, -, c1, c2⟩ := hx.at_ hlt
      obtain ⟨b', o', r', hr', rfl, -, d1, d2⟩ := hy.at_ hlt
      obtain rfl : r = r' := by rw [hr] at hr'; injection hr'
      clear hr hr'
      go_wp2_with fail
      go_quiet (fail)
      go_wp2_with fail
      go_roundw
      case rel => exact ⟨k + 1, _, by omega, by go_num, rfl⟩
      case measure => simp [intOf]; omega
    · go_wp2_with fail
      go_ret
      exact ⟨rfl, _, rfl⟩

/-- A slice that reads as rows of patches. -/
def RV (w : World) (A : Option Addr) (n : Nat) (R : List RW) : Prop := R.length = n ∧ n ≤ 1000000 ∧ Rd w w.heap.size A 1 n (R.map RW.v) ∧ ∀ r ∈ R, OP w 0 r.v r.L
section
variable {w w' : World} {A : Option Addr} {n base : Nat} {R : List RW} {v : Value}
theorem RV.keep (h : RV w A n R) (g : Grow w w') : RV w' A n R := ⟨h.1, h.2.1, (Rd.below h.2.2.1 g).more g.size, fun r hr => (h.2.2.2 r hr).keep g⟩
theorem RV.at_ (h : RV w A n R) {i : Nat} (hi : i < n) : ∃ b o r, R[i]? = some r ∧ A = some ⟨b, o, none⟩ ∧ b < w.heap.size ∧ w.cell? ⟨b, o + i, none⟩ = some r.v ∧ OP w 0 r.v r.L := by
  obtain ⟨hn, -, ⟨hl, hr⟩, ho⟩ := h
  obtain ⟨b, o, rfl, hb, hc⟩ := hr (by omega)
  have hi' : i < R.length := by omega
  exact ⟨b, o, R[i], by simp [hi'], rfl, hb, hc i _ (by simp [hi']), ho _ (List.getElem_mem _)⟩
theorem RV.take (h : RV w A n R) {k : Nat} (hk : k ≤ n) : RV w A k (R.take k) := by
  obtain ⟨h1, h2, h3, h4⟩ := h
  refine ⟨by rw [List.length_take]; omega, by omega, ?_, fun r hr => h4 r (List.mem_of_mem_take hr)⟩
  have := Rd.take h3 hk
  rw [Nat.mul_one] at this
  rw [List.map_take]
  exact this
theorem OW.rv (h : OW w base v R) (hn : R.length ≤ 1000000) : ∃ A c, v = .slice A R.length c ∧ R.length ≤ c ∧ RV w A R.length R := by
  obtain ⟨A, c, rfl, h1, -, -, -⟩ := own_form h.1
  exact ⟨A, c, rfl, h1, rfl, hn, Rd.of_own h.1, fun r hr => (h.2.1 r hr).low (Nat.zero_le _)⟩
end

end Go.Proofs.Ytlinlmimakealaa

namespace Go.Proofs.Ytlinlmimakealaa
open Go.RowKit

section
variable {w w' : World} {l p bx : Nat} {r : PT} {F : Nat → Prop}
theorem redo3_grow (g : Grow w w') (h : w.cell? ⟨l, 0, none⟩ = some (.pointer (some ⟨p, 0, none⟩)) ∧ w.cell? ⟨bx, 0, none⟩ = some (.int .i64 r.pos) ∧ w.cell? ⟨bx, 1, none⟩ = some (.string r.dat)) : w'.cell? ⟨l, 0, none⟩ = some (.pointer (some ⟨p, 0, none⟩)) ∧ w'.cell? ⟨bx, 0, none⟩ = some (.int .i64 r.pos) ∧ w'.cell? ⟨bx, 1, none⟩ = some (.string r.dat) := ⟨g.cell h.1, g.cell h.2.1, g.cell h.2.2⟩
theorem redo3_turn (t : Turn F w w') (h2 : ¬ F l) (h3 : ¬ F bx) (h : w.cell? ⟨l, 0, none⟩ = some (.pointer (some ⟨p, 0, none⟩)) ∧ w.cell? ⟨bx, 0, none⟩ = some (.int .i64 r.pos) ∧ w.cell? ⟨bx, 1, none⟩ = some (.string r.dat)) : w'.cell? ⟨l, 0, none⟩ = some (.pointer (some ⟨p, 0, none⟩)) ∧ w'.cell? ⟨bx, 0, none⟩ = some (.int .i64 r.pos) ∧ w'.cell? ⟨bx, 1, none⟩ = some (.string r.dat) := ⟨t.cell' h.1 h2, t.cell' h.2.1 h3, t.cell' h.2.2 h3⟩
end
theorem rl_store_ok {w wz : World} {l : Nat} {x : MB} {s : MS} (h : RL w l x s) (r : PT) (hin : inW 1024 r.pos r.dat.size = true) (g : Grow w wz) (k c : Nat) (hk : w.heap.size ≤ k) (hs : Sl wz (some ⟨k, 0, none⟩) r.dat.size r.txt) :
    Calls Try.prog 51 #[.pointer (some ⟨x.p, 0, none⟩), .int .i64 r.pos, .slice (some ⟨k, 0, none⟩) r.dat.size c] wz fun e w' => e = .returned (.int .i64 0) ∧ RL w' l x (s.store r.pos r.txt) ∧ Turn x.F wz w' ∧ Turn x.F w w' := by
  refine (rm_storeU (h.1.keep g) hs (fun _ p hp q => ?_) r.pos).mono ?_
  · injection hp with hp
    subst hp
    have q' : x.F k := q
    have := h.1.lt k q'
    omega
  rintro e w' ⟨rfl, h5, t5⟩
  rw [show inW (8 * 128) r.pos r.dat.size = true from hin]
  have hl : r.txt.length = r.dat.size := hs.1
  refine ⟨rfl, ⟨?_, (h.2.1.keep g).turn t5 h.2.2, h.2.2⟩, t5, (Turn.grow g _).and t5⟩
  simp only [MS.store]
  rw [hl]
  exact h5
theorem rl_store_no {w wz : World} {l : Nat} {x : MB} {s : MS} (h : RL w l x s) (r : PT) (hin : inW 1024 r.pos r.dat.size = false) (g : Grow w wz) (k c : Nat) (hk : w.heap.size ≤ k) (hs : Sl wz (some ⟨k, 0, none⟩) r.dat.size r.txt) :
    Calls Try.prog 51 #[.pointer (some ⟨x.p, 0, none⟩), .int .i64 r.pos, .slice (some ⟨k, 0, none⟩) r.dat.size c] wz fun e w' => e = .returned (.int .i64 1) ∧ RL w' l x s ∧ Turn x.F wz w' ∧ Turn x.F w w' := by
  refine (rm_storeU (h.1.keep g) hs (fun _ p hp q => ?_) r.pos).mono ?_
  · injection hp with hp
    subst hp
    have q' : x.F k := q
    have := h.1.lt k q'
    omega
  rintro e w' ⟨rfl, h5, t5⟩
  rw [show inW (8 * 128) r.pos r.dat.size = false from hin]
  have hl : r.txt.length = r.dat.size := hs.1
  refine ⟨rfl, ⟨?_, (h.2.1.keep g).turn t5 h.2.2, h.2.2⟩, t5, (Turn.grow g _).and t5⟩
  have e := store_no (s := s) hin
  rw [← e]
  simp only [MS.store]
  rw [hl]
  exact h5
theorem rl_flush_at {w wz : World} {l : Nat} {x : MB} {s : MS} (h : RL w l x s) (r : PT) (g : Grow w wz) :
    Calls Try.prog 79 #[.pointer (some ⟨x.p, 0, none⟩), .int .i64 r.pos, .int .i64 (r.dat.size : Nat)] wz fun e w' => ∃ er, e = .returned (.int .i64 er) ∧ RL w' l x (s.flush r.pos r.dat.size) ∧ Turn x.F wz w' ∧ Turn x.F w w' := by
  refine (rm_flushU (h.1.keep g) r.pos (r.dat.size : Nat)).mono ?_
  rintro e w' ⟨rfl, h5, t5⟩
  exact ⟨_, rfl, ⟨h5, (h.2.1.keep g).turn t5 h.2.2, h.2.2⟩, t5, (Turn.grow g _).and t5⟩

def RedoIn (w wr : World) (l : Nat) (x : MB) (s : MS) (L : List PT) (t : Value) : Prop := ∃ k : Nat, t = .int .i64 (k : Int) ∧ k ≤ L.length ∧ RL wr l x (s.patches (L.take k)) ∧ Turn x.F w wr
def RedoOut (w wr : World) (l : Nat) (x : MB) (s : MS) (LL : List (List PT)) (t : Value) : Prop := ∃ i : Nat, t = .int .i64 (i : Int) ∧ i ≤ LL.length ∧ RL wr l x (s.redone (LL.take i)) ∧ Turn x.F w wr

set_option maxHeartbeats 8000000 in
set_option maxRecDepth 8000 in
theorem rl_redo {w : World} {l : Nat} {x : MB} {s : MS} (h : RL w l x s) :
    Calls Try.prog 69 #[.pointer (some ⟨l, 0, none⟩)] w fun e w' => e = .returned (.int .i64 ((lgL s.S).length : Nat)) ∧ RL w' l x s.redo ∧ Turn x.F w w' := by
  have H := Lib.hid h
  have HF := Lib.hid (recs_few ⟨s.S, s.T, s.A⟩ h.lenS)
  have HLT := Lib.hid h.1.lt
  clear h
  go_enter Try.func69, Try.ntmps69
  go_wp2_with fail
  refine (rl_read H.out).mono ?_
  rintro e w1 ⟨v, R, rfl, how, hRL, g1⟩
  have hRl : R.length = (lgL s.S).length := by rw [← hRL, List.length_map]
  have hRn : R.length ≤ 63 := by rw [hRl]; exact HF.out
  obtain ⟨A, c, rfl, -, -⟩ := how.rv (by omega)
  obtain ⟨n, hn⟩ : ∃ n, n = R.length := ⟨_, rfl⟩
  obtain ⟨LL, hLL⟩ : ∃ LL, LL = lgL s.S := ⟨_, rfl⟩
  rw [← hn] at hRn how ⊢
  have HN0 := Lib.hid (show LL.length = n by rw [hLL, hn, hRl])
  have HOW := Lib.hid how
  have HRL := Lib.hid hRL
  have HLL := Lib.hid hLL
  have HNR := Lib.hid hn
  have H1 := Lib.hid (H.out.keep g1)
  have HG1 := Lib.hid g1
  clear how hRL hRl hn hLL g1
  go_wp2_with fail
  go_loopw [5] (fun t wr => RedoOut w1 wr l x s LL t) (fun t _ => n - (intOf t).toNat)
  case atStart => exact ⟨0, by simp, Nat.zero_le _, H1.out, Turn.refl _ _⟩
  case round =>
    obtain ⟨i, rfl, hi, hlg, ht⟩ := hrel
    have HL1 := Lib.hid hlg
    have HT1 := Lib.hid ht
    have hi' : i ≤ n := by have := HN0.out; omega
    clear hlg ht hi
    by_cases hilt : i < n
    · obtain ⟨A', c', e', -, hrv⟩ := HOW.out.rv (by have := HNR.out; omega)
      injection e' with e1 e2 e3
      subst e1
      rw [← HNR.out] at hrv
      obtain ⟨b, o, rw0, hri, rfl, -, cr, op⟩ := hrv.at_ hilt
      have hLi : LL[i]? = some rw0.L := by
        have h1 : (R.map RW.L)[i]? = some rw0.L := by rw [List.getElem?_map, hri]; rfl
        rw [HRL.out, ← HLL.out] at h1
        exact h1
      have HST := Lib.hid (redone_step (s := s) hLi)
      have hfew := rcL_few _ (lgB s.S) (Nat.le_refl _) rw0.L (by have := List.mem_of_getElem? hLi; rw [HLL.out] at this; exact this)
      obtain ⟨u, L⟩ := rw0
      simp only at cr op HST hfew
      have hmem := List.mem_of_getElem? hri
      have opw := HOW.out.2.1 _ hmem
      simp only at opw
      obtain ⟨Ai, ci, rfl, -, hrp⟩ := op.rp (by have := hfew.1; omega)
      obtain ⟨m, hm⟩ : ∃ m, m = L.length := ⟨_, rfl⟩
      rw [← hm] at cr opw hrp
      have hL : m ≤ 64 := by rw [hm]; exact hfew.1
      have HN := Lib.hid hm
      have HWW := Lib.hid hfew.2
      have HCR := Lib.hid cr
      have HRP := Lib.hid hrp
      have hbF : ¬ x.F b := fun q => by have := HLT.out b q; have := (World.ownsRow.lt HOW.out.1 b rfl).1; omega
      have HAF := Lib.hid (show 0 < m → ∀ p, Ai = some p → ¬ x.F p.block from fun _ p hp q => by
        have q1 := HLT.out _ q
        have q2 := (World.ownsRow.lt opw p.block (by rw [hp]; rfl)).1
        omega)
      clear e2 e3 hrv hri hLi hfew hmem op opw hm cr hrp
      obtain ⟨sO, hsO⟩ : ∃ sO, sO = s.redone (LL.take i) := ⟨_, rfl⟩
      rw [← hsO] at HL1 HST
      clear hsO
      go_wp2_with fail
      go_loopw [6] (fun t wr => RedoIn w1 wr l x sO L t) (fun t _ => m - (intOf t).toNat)
      case atStart => exact ⟨0, by simp, Nat.zero_le _, HL1.out, HT1.out⟩
      case round =>
        obtain ⟨k, rfl, hk, hlg, ht⟩ := hrel
        have HLG := Lib.hid hlg
        have HT := Lib.hid ht
        have hk' : k ≤ m := by rw [HN.out]; exact hk
        have cr := HT.out.cell' HCR.out hbF
        clear hlg ht hk
        by_cases hlt : k < m
        · have R1 : RP wr Ai m L := RP.turn HRP.out HT.out HAF.out
          obtain ⟨b', o', r, hrk, rfl, hb, d0, d1⟩ := R1.at_ hlt
          have hrm : r.dat.size ≤ 1000 := by have := HWW.out r (List.mem_of_getElem? hrk); omega
          have HRK := Lib.hid (patches_step (s := sO) hrk)
          have cl := HLG.out.2.1.c3.1
          obtain ⟨s2, hs2⟩ : ∃ s2, s2 = sO.patches (L.take k) := ⟨_, rfl⟩
          rw [← hs2] at HLG HRK
          clear hrk R1 hs2
          cases hin : inW 1024 r.pos r.dat.size with
          | true =>
            have HIN := Lib.hid hin
            clear hin
            go_wp2_with fail
            obtain ⟨wa, hwa⟩ : ∃ wa, wa = wr.alloc (.cells #[.int .i64 r.pos, .string r.dat] 37) := ⟨_, rfl⟩
            obtain ⟨bx, hbx⟩ : ∃ bx, bx = wr.heap.size := ⟨_, rfl⟩
            have NB := Row.new wr 37 [.int .i64 r.pos, .string r.dat] _ rfl
            have gA := (Grow.refl wr).alloc (.cells #[.int .i64 r.pos, .string r.dat] 37)
            rw [← hwa, ← hbx] at NB
            rw [← hwa] at gA
            have HGA := Lib.hid gA
            have hbF2 : ¬ x.F bx := fun q => by have := HLG.out.1.lt bx q; omega
            have hwz : wr.heap.size ≤ wa.heap.size := gA.size
            have hsS : (wa.cell? ⟨l, 0, none⟩ = some (.pointer (some ⟨x.p, 0, none⟩)) ∧ wa.cell? ⟨bx, 0, none⟩ = some (.int .i64 r.pos) ∧ wa.cell? ⟨bx, 1, none⟩ = some (.string r.dat)) := ⟨gA.cell cl, NB.1.c2.1, NB.1.c2.2⟩
            have HFS := Lib.hid (And.intro HLG.out.2.2 hbF2)
            rw [← hwa, ← hbx]
            have kc := fun (u : World) => Lib.run_convert_string_bytes (P := Try.prog) u 9 22 5 r.dat Try.underlying9 Try.underlying22 Try.underlying5
            clear hwa hbx NB gA d0 d1 cl cr
            refine wp_region_held_drew (S := fun w' => w'.cell? ⟨l, 0, none⟩ = some (.pointer (some ⟨x.p, 0, none⟩)) ∧ w'.cell? ⟨bx, 0, none⟩ = some (.int .i64 r.pos) ∧ w'.cell? ⟨bx, 1, none⟩ = some (.string r.dat)) (by kernel_rfl) ?_ (fun hHeld => ?_)
            · exact hsS
            refine wpAnyH_take (i := 0) (oi := _) (v := ?_) rfl (by kernel_rfl) (by kernel_rfl) (by kernel_rfl) (fun _ _ _ h => h) (Or.inl ⟨by rfl, ?_⟩) (by assumption) ?_
            rotate_left
            · (intro w hSw; (try dsimp only at hSw); go_simp; (try with_reducible rfl))
            simp only [Act.put, List.setIfInBounds_toArray]
            refine wpAnyH_take (i := 1) (oi := _) (v := ?_) rfl (by kernel_rfl) (by kernel_rfl) (by kernel_rfl) (fun _ _ _ h => h) (Or.inl ⟨by rfl, ?_⟩) (by assumption) ?_
            rotate_left
            · (intro w hSw; (try dsimp only at hSw); go_simp; (try with_reducible rfl))
            simp only [Act.put]
            refine wpAnyH_take (i := 2) (oi := _) (v := ?_) rfl (by kernel_rfl) (by kernel_rfl) (by kernel_rfl) (fun _ _ _ h => h) (Or.inl ⟨by rfl, ?_⟩) (by assumption) ?_
            rotate_left
            · (intro w hSw; (try dsimp only at hSw); go_simp; (try with_reducible rfl))
            simp only [Act.put]
            refine wpAnyH_take (i := 3) (oi := _) (v := ?_) rfl (by kernel_rfl) (by kernel_rfl) (by kernel_rfl) (fun _ _ _ h => h) (Or.inl ⟨by rfl, ?_⟩) (by assumption) ?_
            rotate_left
            · (intro w hSw; (try dsimp only at hSw); go_simp; (try with_reducible rfl))
            simp only [Act.put]
            refine wpAnyH_take (i := 4) (oi := _) (v := ?_) rfl (by kernel_rfl) (by kernel_rfl) (by kernel_rfl) (fun _ _ _ h => h) (Or.inl ⟨by rfl, ?_⟩) (by assumption) ?_
            rotate_left
            · (intro w hSw; (try dsimp only at hSw); go_simp; (try with_reducible rfl))
            simp only [Act.put]
            refine wpAnyH_take (i := 5) (oi := _) (v := ?_) rfl (by kernel_rfl) (by kernel_rfl) (by kernel_rfl) (fun _ _ _ h => h) (Or.inl ⟨by rfl, ?_⟩) (by assumption) ?_
            rotate_left
            · (intro w hSw; (try dsimp only at hSw); go_simp; (try with_reducible rfl))
            simp only [Act.put]
            refine wpAnyH_take (i := 6) (oi := _) (v := ?_) rfl (by kernel_rfl) (by kernel_rfl) (by kernel_rfl) (fun _ _ _ h => h) (Or.inl ⟨by rfl, ?_⟩) (by assumption) ?_
            rotate_left
            · (intro w hSw; (try dsimp only at hSw); go_simp; (try with_reducible rfl))
            simp only [Act.put]
            refine wpAnyH_take (i := 7) (oi := _) (v := ?_) rfl (by kernel_rfl) (by kernel_rfl) (by kernel_rfl) (fun _ _ _ h => h) (Or.inl ⟨by rfl, ?_⟩) (by assumption) ?_
            rotate_left
            · (intro w hSw; (try dsimp only at hSw); go_simp; (try with_reducible rfl))
            simp only [Act.put]
            refine wpAnyH_ready (rs := [8]) (by kernel_rfl) (by simp) ?_
            refine AllReadyH.cons (o := _) rfl (fun K hK => ?_) AllReadyH.nil
            go_simp
            refine hK.out _ _ (redo3_grow (bytesGrow _ _) (by assumption)) (fun hHeld2 => ?_)
            clear hK K
            refine wpAnyH_ready (rs := [9]) (by kernel_rfl) (by simp) ?_
            refine AllReadyH.cons (o := _) rfl (fun K hK => ?_) AllReadyH.nil
            go_simp
            refine (rl_store_ok HLG.out r HIN.out ?_ _ _ ?_ ?_).mono ?_; (repeat (first | exact Grow.refl _ | exact HGA.out | refine Grow.drew ?_ | refine Grow.drewN ?_ _ | refine Grow.trans ?_ (bytesGrow _ _))); (first | exact hwz | (simp; exact hwz)); (first | exact (bytes_of _ _ (by omega)).1 | exact (bytes_of _ _ (by omega)).1.drew); rintro e w5 ⟨rfl, h5, t5, t6⟩; have hs5 := redo3_turn (r := r) t5 HFS.out.1 HFS.out.2 (by assumption)
            refine hK.out _ _ hs5 (fun hHeld5 => ?_)
            clear hK K
            refine wpAnyH_take (i := 10) (oi := { dst := some 45, op := .binOp .eql 25 (.tmp 44) (.const (.int .i64 0)) 25, type := 4, pos := _, after := #[{ on := 9, ground := .data }], guard := none }) (v := ?_) rfl (by kernel_rfl) (by kernel_rfl) (by kernel_rfl) (fun _ _ _ h => h) (Or.inl ⟨by rfl, ?_⟩) (by assumption) ?_
            rotate_left
            · (intro w hSw; (try dsimp only at hSw); go_simp; (try with_reducible rfl))
            simp only [Act.put, List.setIfInBounds_toArray]
            refine wpAnyH_done (by kernel_rfl) ?_ _
            all_goals
              have H5 := Lib.hid h5
              have HT5 := Lib.hid (HT.out.and t6)
              clear h5 t5 t6 kc hsS
              go_wp2_with fail
              go_region_held3 (fun w' => w'.cell? ⟨l, 0, none⟩ = some (.pointer (some ⟨x.p, 0, none⟩)) ∧ w'.cell? ⟨bx, 0, none⟩ = some (.int .i64 r.pos) ∧ w'.cell? ⟨bx, 1, none⟩ = some (.string r.dat)) (first | exact hs5 | exact hs6) ((go_at_call 79; refine (rl_flush_at H5.out r ?_).mono ?_; (repeat (first | exact Grow.refl _ | refine Grow.drew ?_ | refine Grow.drewN ?_ _)); rintro e w6 ⟨er, rfl, h6, t6, t7⟩; have hs6 := redo3_turn (r := r) t6 HFS.out.1 HFS.out.2 (by assumption)))
              all_goals
                have H6 := Lib.hid h6
                have HT7 := Lib.hid (HT5.out.and t7)
                clear h6 t6 t7 hs5 hs6
                have X : RedoIn w1 w6 l x sO L (.int .i64 ((k : Int) + 1)) := ⟨k + 1, by simp, by have := HN.out; omega, by rw [HRK.out, MS.patch, if_pos HIN.out]; exact H6.out, HT7.out⟩
                have HX := Lib.hid X
                clear X
                go_wp2_with fail
                have e5 : wrap64 ((k : Int) + 1) = (k : Int) + 1 := IntWalk.wrap64_in _ (by omega)
                go_roundw
                case rel => (try rw [e5]); first | exact HX.out | ((repeat apply Exists.intro); exact HX.out) | ((repeat apply Exists.intro); refine ⟨HX.out, ?_⟩; rfl)
                case measure => first | exact measP hlt | exact measPW hlt e5
          | false =>
            have HIN := Lib.hid hin
            clear hin
            go_wp2_with fail
            obtain ⟨wa, hwa⟩ : ∃ wa, wa = wr.alloc (.cells #[.int .i64 r.pos, .string r.dat] 37) := ⟨_, rfl⟩
            obtain ⟨bx, hbx⟩ : ∃ bx, bx = wr.heap.size := ⟨_, rfl⟩
            have NB := Row.new wr 37 [.int .i64 r.pos, .string r.dat] _ rfl
            have gA := (Grow.refl wr).alloc (.cells #[.int .i64 r.pos, .string r.dat] 37)
            rw [← hwa, ← hbx] at NB
            rw [← hwa] at gA
            have HGA := Lib.hid gA
            have hbF2 : ¬ x.F bx := fun q => by have := HLG.out.1.lt bx q; omega
            have hwz : wr.heap.size ≤ wa.heap.size := gA.size
            have hsS : (wa.cell? ⟨l, 0, none⟩ = some (.pointer (some ⟨x.p, 0, none⟩)) ∧ wa.cell? ⟨bx, 0, none⟩ = some (.int .i64 r.pos) ∧ wa.cell? ⟨bx, 1, none⟩ = some (.string r.dat)) := ⟨gA.cell cl, NB.1.c2.1, NB.1.c2.2⟩
            have HFS := Lib.hid (And.intro HLG.out.2.2 hbF2)
            rw [← hwa, ← hbx]
            have kc := fun (u : World) => Lib.run_convert_string_bytes (P := Try.prog) u 9 22 5 r.dat Try.underlying9 Try.underlying22 Try.underlying5
            clear hwa hbx NB gA d0 d1 cl cr
            refine wp_region_held_drew (S := fun w' => w'.cell? ⟨l, 0, none⟩ = some (.pointer (some ⟨x.p, 0, none⟩)) ∧ w'.cell? ⟨bx, 0, none⟩ = some (.int .i64 r.pos) ∧ w'.cell? ⟨bx, 1, none⟩ = some (.string r.dat)) (by kernel_rfl) ?_ (fun hHeld => ?_)
            · exact hsS
            refine wpAnyH_take (i := 0) (oi := _) (v := ?_) rfl (by kernel_rfl) (by kernel_rfl) (by kernel_rfl) (fun _ _ _ h => h) (Or.inl ⟨by rfl, ?_⟩) (by assumption) ?_
            rotate_left
            · (intro w hSw; (try dsimp only at hSw); go_simp; (try with_reducible rfl))
            simp only [Act.put, List.setIfInBounds_toArray]
            refine wpAnyH_take (i := 1) (oi := _) (v := ?_) rfl (by kernel_rfl) (by kernel_rfl) (by kernel_rfl) (fun _ _ _ h => h) (Or.inl ⟨by rfl, ?_⟩) (by assumption) ?_
            rotate_left
            · (intro w hSw; (try dsimp only at hSw); go_simp; (try with_reducible rfl))
            simp only [Act.put]
            refine wpAnyH_take (i := 2) (oi := _) (v := ?_) rfl (by kernel_rfl) (by kernel_rfl) (by kernel_rfl) (fun _ _ _ h => h) (Or.inl ⟨by rfl, ?_⟩) (by assumption) ?_
            rotate_left
            · (intro w hSw; (try dsimp only at hSw); go_simp; (try with_reducible rfl))
            simp only [Act.put]
            refine wpAnyH_take (i := 3) (oi := _) (v := ?_) rfl (by kernel_rfl) (by kernel_rfl) (by kernel_rfl) (fun _ _ _ h => h) (Or.inl ⟨by rfl, ?_⟩) (by assumption) ?_
            rotate_left
            · (intro w hSw; (try dsimp only at hSw); go_simp; (try with_reducible rfl))
            simp only [Act.put]
            refine wpAnyH_take (i := 4) (oi := _) (v := ?_) rfl (by kernel_rfl) (by kernel_rfl) (by kernel_rfl) (fun _ _ _ h => h) (Or.inl ⟨by rfl, ?_⟩) (by assumption) ?_
            rotate_left
            · (intro w hSw; (try dsimp only at hSw); go_simp; (try with_reducible rfl))
            simp only [Act.put]
            refine wpAnyH_take (i := 5) (oi := _) (v := ?_) rfl (by kernel_rfl) (by kernel_rfl) (by kernel_rfl) (fun _ _ _ h => h) (Or.inl ⟨by rfl, ?_⟩) (by assumption) ?_
            rotate_left
            · (intro w hSw; (try dsimp only at hSw); go_simp; (try with_reducible rfl))
            simp only [Act.put]
            refine wpAnyH_take (i := 6) (oi := _) (v := ?_) rfl (by kernel_rfl) (by kernel_rfl) (by kernel_rfl) (fun _ _ _ h => h) (Or.inl ⟨by rfl, ?_⟩) (by assumption) ?_
            rotate_left
            · (intro w hSw; (try dsimp only at hSw); go_simp; (try with_reducible rfl))
            simp only [Act.put]
            refine wpAnyH_take (i := 7) (oi := _) (v := ?_) rfl (by kernel_rfl) (by kernel_rfl) (by kernel_rfl) (fun _ _ _ h => h) (Or.inl ⟨by rfl, ?_⟩) (by assumption) ?_
            rotate_left
            · (intro w hSw; (try dsimp only at hSw); go_simp; (try with_reducible rfl))
            simp only [Act.put]
            refine wpAnyH_ready (rs := [8]) (by kernel_rfl) (by simp) ?_
            refine AllReadyH.cons (o := _) rfl (fun K hK => ?_) AllReadyH.nil
            go_simp
            refine hK.out _ _ (redo3_grow (bytesGrow _ _) (by assumption)) (fun hHeld2 => ?_)
            clear hK K
            refine wpAnyH_ready (rs := [9]) (by kernel_rfl) (by simp) ?_
            refine AllReadyH.cons (o := _) rfl (fun K hK => ?_) AllReadyH.nil
            go_simp
            refine (rl_store_no HLG.out r HIN.out ?_ _ _ ?_ ?_).mono ?_; (repeat (first | exact Grow.refl _ | exact HGA.out | refine Grow.drew ?_ | refine Grow.drewN ?_ _ | refine Grow.trans ?_ (bytesGrow _ _))); (first | exact hwz | (simp; exact hwz)); (first | exact (bytes_of _ _ (by omega)).1 | exact (bytes_of _ _ (by omega)).1.drew); rintro e w5 ⟨rfl, h5, t5, t6⟩; have hs5 := redo3_turn (r := r) t5 HFS.out.1 HFS.out.2 (by assumption)
            refine hK.out _ _ hs5 (fun hHeld5 => ?_)
            clear hK K
            refine wpAnyH_take (i := 10) (oi := { dst := some 45, op := .binOp .eql 25 (.tmp 44) (.const (.int .i64 0)) 25, type := 4, pos := _, after := #[{ on := 9, ground := .data }], guard := none }) (v := ?_) rfl (by kernel_rfl) (by kernel_rfl) (by kernel_rfl) (fun _ _ _ h => h) (Or.inl ⟨by rfl, ?_⟩) (by assumption) ?_
            rotate_left
            · (intro w hSw; (try dsimp only at hSw); go_simp; (try with_reducible rfl))
            simp only [Act.put, List.setIfInBounds_toArray]
            refine wpAnyH_done (by kernel_rfl) ?_ _
            all_goals
              have H5 := Lib.hid h5
              have HT5 := Lib.hid (HT.out.and t6)
              clear h5 t5 t6 kc hsS
              clear hs5
              have X : RedoIn w1 w5 l x sO L (.int .i64 ((k : Int) + 1)) := ⟨k + 1, by simp, by have := HN.out; omega, by rw [HRK.out, MS.patch, if_neg (by rw [HIN.out]; simp)]; exact H5.out, HT5.out⟩
              have HX := Lib.hid X
              clear X
              go_wp2_with fail
              have e5 : wrap64 ((k : Int) + 1) = (k : Int) + 1 := IntWalk.wrap64_in _ (by omega)
              go_roundw
              case rel => (try rw [e5]); first | exact HX.out | ((repeat apply Exists.intro); exact HX.out) | ((repeat apply Exists.intro); refine ⟨HX.out, ?_⟩; rfl)
              case measure => first | exact measP hlt | exact measPW hlt e5
        · obtain rfl : k = m := by omega
          have HLE := Lib.hid (show sO.patches (L.take k) = sO.patches L by rw [List.take_of_length_le (by rw [← HN.out]; exact Nat.le_refl _)])
          have X : RedoOut w1 wr l x s LL (.int .i64 ((i : Int) + 1)) := ⟨i + 1, by simp, by have := HN0.out; omega, by rw [HST.out, ← HLE.out]; exact HLG.out, HT.out⟩
          have HX := Lib.hid X
          clear X hlt
          go_wp2_with fail
          have e5 : wrap64 ((i : Int) + 1) = (i : Int) + 1 := IntWalk.wrap64_in _ (by omega)
          go_roundw
          case rel => (try rw [e5]); first | exact HX.out | ((repeat apply Exists.intro); exact HX.out) | ((repeat apply Exists.intro); refine ⟨HX.out, ?_⟩; rfl)
          case measure => first | exact measP hilt | exact measPW hilt e5
    · obtain rfl : i = n := by omega
      have h3 := HL1.out
      rw [List.take_of_length_le (by rw [HN0.out]; exact Nat.le_refl _)] at h3
      have H2 := Lib.hid h3
      have c0 := h3.2.1.c3.1
      have HT2 := Lib.hid ((Turn.grow HG1.out x.F).and HT1.out)
      clear h3 hilt
      go_wp2_with fail
      refine (rm_fence H2.out.1).mono ?_
      rintro e w3 ⟨rfl, hP3, t3⟩
      have H3 := Lib.hid (show RL w3 l x (s.redone LL).fence from ⟨hP3, H2.out.2.1.turn t3 H2.out.2.2, H2.out.2.2⟩)
      have HT3 := Lib.hid (HT2.out.and t3)
      clear hP3 t3 c0
      go_wp2_with fail
      refine (rl_clear H3.out).mono ?_
      rintro e w4 ⟨rfl, h4, t4⟩
      have H4 := Lib.hid h4
      have HT4 := Lib.hid (HT3.out.and t4)
      clear h4 t4
      go_wp2_with fail
      go_ret
      exact ⟨ret_int (by rw [← HLL.out, HN0.out]), by rw [MS.redo, ← HLL.out]; exact H4.out, HT4.out⟩
end Go.Proofs.Ytlinlmimakealaa

namespace Go.Proofs.Ytlinlmimakealaa
open Go.RowKit

theorem rm_new_no (n : Int) (h : sizeB n = false) (w : World) :
    Calls Try.prog 30 #[.int .i64 n] w fun e w' => e = .returned (.pointer none) ∧ w = w' := by
  have h0 : ¬ (64 ≤ n ∧ n ≤ 1048576 ∧ n % 64 = 0) := fun q => by rw [sizeB_iff.2 q] at h; cases h
  by_cases h1 : n < 64
  · have z1 : decide (n < 64) = true := decide_eq_true h1
    clear h h0 h1
    go_enter Try.func30, Try.ntmps30
    go_wp2_with fail
    go_ret
    exact ⟨rfl, rfl⟩
  · have z1 : decide (n < 64) = false := decide_eq_false h1
    by_cases h2 : 1048576 < n
    · have z2 : decide (1048576 < n) = true := decide_eq_true h2
      clear h h0 h1 h2
      go_enter Try.func30, Try.ntmps30
      go_wp2_with fail
      go_ret
      exact ⟨rfl, rfl⟩
    · have z2 : decide (1048576 < n) = false := decide_eq_false h2
      have z3 : (Int.tmod n 64 != 0) = true := by rw [Int.tmod_eq_emod_of_nonneg (by omega), bne_iff_ne]; omega
      clear h h0 h1 h2
      go_enter Try.func30, Try.ntmps30
      go_wp2_with fail
      go_ret
      exact ⟨rfl, rfl⟩

theorem bool_info : (Try.prog.info? 4).map (fun i => (i.zero, i.size, i.bytes)) = some (some (.bool false), 1, 1) := by kernel_rfl
def zbytes (L : Nat) : Array Value := Array.replicate L (.int .u8 0)
def zbools (N : Nat) : Array Value := Array.replicate N (.bool false)
theorem make_bytes (L : Nat) (hL : L ≤ 1048576) (w : World) : (Instr.makeSlice 22 (.int .i64 (L : Int)) (.int .i64 (L : Int))).run Try.prog w = .ok (.slice (some ⟨w.heap.size, 0, none⟩) L L) (w.alloc (.cells (zbytes L) 5)) := by
  obtain ⟨i0, hi, hz, h1, h2⟩ := info_parts byte_info
  have := run_make (P := Try.prog) w 22 5 i0 _ Try.underlying22 hi hz .i64 .i64 L L (by omega) (Int.le_refl _) (by rw [h2]; omega) (by omega)
  have e : madeCells (Value.int .u8 0).cells (L * 1) = zbytes L := by
    rw [Nat.mul_one]; apply Array.ext
    · simp [madeCells, zbytes]
    · intro j h3 h4; simp [madeCells, zbytes, Value.cells, Nat.mod_one]
  simp only [Int.toNat_natCast, h1, e] at this
  exact this
theorem make_bools (N : Nat) (hN : N ≤ 1048576) (w : World) : (Instr.makeSlice 89 (.int .i64 (N : Int)) (.int .i64 (N : Int))).run Try.prog w = .ok (.slice (some ⟨w.heap.size, 0, none⟩) N N) (w.alloc (.cells (zbools N) 4)) := by
  obtain ⟨i0, hi, hz, h1, h2⟩ := info_parts bool_info
  have := run_make (P := Try.prog) w 89 4 i0 _ Try.underlying89 hi hz .i64 .i64 N N (by omega) (Int.le_refl _) (by rw [h2]; omega) (by omega)
  have e : madeCells (Value.bool false).cells (N * 1) = zbools N := by
    rw [Nat.mul_one]; apply Array.ext
    · simp [madeCells, zbools]
    · intro j h3 h4; simp [madeCells, zbools, Value.cells, Nat.mod_one]
  simp only [Int.toNat_natCast, h1, e] at this
  exact this

theorem zbytes_row {w : World} {g L : Nat} (h : w.heap[g]? = some (.cells (zbytes L) 5)) (hL : L ≤ 1048576) : CR w g 5 1 L L (bvs (List.replicate L 0)) := by
  refine ⟨by simp [bvs], Nat.le_refl _, by unfold maxLen; omega, _, h, by simp [zbytes], ?_⟩
  rw [List.take_of_length_le (by simp [zbytes])]
  simp [zbytes, bvs, bv]
theorem zbools_row {w : World} {g L : Nat} (h : w.heap[g]? = some (.cells (zbools L) 4)) (hL : L ≤ 1048576) : CR w g 4 1 L L (tbs (List.replicate L false)) := by
  refine ⟨by simp [tbs], Nat.le_refl _, by unfold maxLen; omega, _, h, by simp [zbools], ?_⟩
  rw [List.take_of_length_le (by simp [zbools])]
  simp [zbools, tbs]

set_option maxHeartbeats 2000000 in
theorem rm_new_yes (N : Nat) (hN : N % 8 = 0 ∧ 8 ≤ N ∧ N ≤ 131072) (w : World) :
    Calls Try.prog 30 #[.int .i64 (8 * N : Nat)] w fun e w' => ∃ x : MB, e = .returned (.pointer (some ⟨x.p, 0, none⟩)) ∧ RM w' x N (List.replicate (8 * N) 0) (List.replicate (8 * N) 0) (List.replicate N false) ∧ (∀ k, x.F k → w.heap.size ≤ k) ∧ Grow w w' := by
  obtain ⟨n, hn⟩ : ∃ n, n = 8 * N := ⟨_, rfl⟩
  have z1 : decide ((n : Int) < 64) = false := decide_eq_false (by omega)
  have z2 : decide (1048576 < (n : Int)) = false := decide_eq_false (by omega)
  have z3 : (Int.tmod (n : Int) 64 != 0) = false := by rw [Int.tmod_eq_emod_of_nonneg (by omega), show (n : Int) % 64 = 0 by omega]; rfl
  have z4 : ((n : Int) % 64 != 0) = false := by rw [show (n : Int) % 64 = 0 by omega]; rfl
  have e0 : (n : Int) / 8 = (N : Int) := by clear z1 z2 z3 z4; omega
  have e1 : Int.tdiv (n : Int) 8 = (N : Int) := by clear e0; rw [Int.tdiv_eq_ediv_of_nonneg (by omega)]; omega
  have e2 := wrap_small (q := N) (by have := hN.2.2; clear z1 z2 z3 z4 e0 e1; omega)
  have hmk := make_bytes n (by clear z1 z2 z3 z4 e0 e1 e2; omega)
  have hmb := make_bools N (by clear z1 z2 z3 z4 e0 e1 e2; omega)
  have HN := Lib.hid hN
  have HNN := Lib.hid hn
  rw [← hn]
  clear hn hN
  go_enter Try.func30, Try.ntmps30
  go_wp2_with fail
  go_ret
  obtain ⟨q0, q1, q2, q3⟩ := alloc4 w (.cells #[.slice (some ⟨w.heap.size + 1, 0, none⟩) n n, .slice (some ⟨w.heap.size + 1 + 1, 0, none⟩) n n, .slice (some ⟨w.heap.size + 1 + 1 + 1, 0, none⟩) N N] 91) (.cells (zbytes n) 5) (.cells (zbytes n) 5) (.cells (zbools N) 4)
  have hn := HNN.out
  have hN := HN.out
  refine ⟨⟨w.heap.size, w.heap.size + 1, w.heap.size + 1 + 1, w.heap.size + 1 + 1 + 1⟩, rfl, ⟨n, n, N, hN, by unfold MB.apart; simp; try omega, ⟨rfl, Nat.le_refl _, by unfold maxLen; clear e0 e1 e2 z1 z2 z3 z4; omega, _, q0, rfl, ?_⟩, ?_, ?_, ?_⟩, fun k hk => by (rcases hk with h | h | h | h <;> simp at h <;> omega), ((((Grow.refl w).alloc _).alloc _).alloc _).alloc _⟩
  · rw [← hn]; rfl
  · have := zbytes_row q1 (by clear e0 e1 e2 z1 z2 z3 z4; omega); rw [← hn]; exact this
  · have := zbytes_row q2 (by clear e0 e1 e2 z1 z2 z3 z4; omega); rw [← hn]; exact this
  · exact zbools_row q3 (by clear e0 e1 e2 z1 z2 z3 z4; omega)
end Go.Proofs.Ytlinlmimakealaa
