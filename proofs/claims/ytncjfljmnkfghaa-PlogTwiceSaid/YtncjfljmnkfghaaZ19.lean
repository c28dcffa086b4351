/- commonsref08.Log: Append. commonsref08.Log: Redo. commonsref03.New. commonslaw08: begin, like. No statement of the seat is proved here. -/
import Derived.Test.YtncjfljmnkfghaaZ18
import Derived.Test.YtncjfljmnkfghaaZ14
import Derived.Test.YtncjfljmnkfghaaZ16
import Derived.Test.YtncjfljmnkfghaaZ05
import Derived.Test.YtncjfljmnkfghaaZ06
import Derived.Test.YtncjfljmnkfghaaZ12
import Derived.Test.YtncjfljmnkfghaaZ08
import Derived.Test.YtncjfljmnkfghaaZ07
namespace Go.Proofs.Ytncjfljmnkfghaa
open Go.RowKit

theorem rput_end {w : World} (U m : Nat) (h : U + m ≤ 2000) : Calls Try.prog 39 #[.slice none 0 0, .int .i64 ((U : Int) + (m : Int)), .int .i64 8] w fun e w' => ∃ A' c', e = .returned (.slice A' 8 c') ∧ Own w' w.heap.size A' 8 c' (leB (U + m) 8) ∧ Grow w w' := by
  refine (rput_s (n := 0) (bs := []) 8 Sl.nil (fits_small8 (by omega) (by omega)) (by omega) rfl (by omega)).mono ?_
  rintro e w' ⟨A', c', rfl, o, g⟩
  rw [List.nil_append, show ((U : Int) + (m : Int)).toNat = U + m by omega] at o
  exact ⟨A', c', rfl, o, g⟩

set_option maxHeartbeats 4000000 in
set_option maxRecDepth 8000 in
theorem rl_append {w : World} {l : Nat} {x : MB} {s : MS} (h : RL w l x s) {A : Option Addr} {n c : Nat} {L : List PT} (hr : RP w A n L) (hw : ∀ p ∈ L, p.wide) :
    Calls Try.prog 26 #[.pointer (some ⟨l, 0, none⟩), .slice A n c] w fun e w' => e = .returned (.int .i64 (apE s.S L)) ∧ RL w' l x (s.append L) ∧ Turn x.F w w' := by
  have H := Lib.hid h
  have HR := Lib.hid hr
  have HW := Lib.hid hw
  have HLT := Lib.hid h.1.lt
  clear h hr hw
  go_enter Try.func26, Try.ntmps26
  go_wp2_with fail
  refine (rl_encode HR.out HW.out).mono ?_
  rintro e w1 (⟨hm, A1, c1, rfl, o1, g1⟩ | ⟨hm, rfl, g1⟩)
  · obtain ⟨bs, hbs⟩ : ∃ bs, bs = encP L := ⟨_, rfl⟩
    obtain ⟨m, hmm⟩ : ∃ m, m = bs.length := ⟨_, rfl⟩
    have hm8 := encP_mod L
    have hml := encP_le hm
    rw [← hbs, ← hmm] at o1 hm8 hml
    have m1 := hm8.2
    obtain ⟨U, hU⟩ : ∃ U, U = lgU s.S := ⟨_, rfl⟩
    have hU5 : U ≤ 504 := by rw [hU]; exact lgU_le
    have HM := Lib.hid hm
    have HO := Lib.hid o1
    have HG := Lib.hid g1
    have HBS := Lib.hid hbs
    have HMM := Lib.hid hmm
    have HUU := Lib.hid hU
    have H1 := Lib.hid (H.out.keep g1)
    rw [← hbs, ← hmm]
    clear hm o1 g1 hm8 hmm hbs hU
    go_wp2_with fail
    refine (rl_read H1.out).mono ?_
    rintro e w2 ⟨vr, Rr, rfl, -, -, g2⟩
    rw [← HUU.out]
    have H2 := Lib.hid (H1.out.keep g2)
    have HG2 := Lib.hid (HG.out.trans g2)
    have HO2 := Lib.hid (show Own w2 w.heap.size A1 m c1 bs from ⟨HO.out.1, HO.out.2.1, World.ownsRow.kept HO.out.2.2 g2.grown (own_none _)⟩)
    have c1 := H2.out.2.1.c3.2.1
    have c2 := H2.out.2.1.c3.2.2
    clear g2
    by_cases hf : 504 < U + m
    · have z1 : decide ((504 : Int) < (U : Int) + (m : Int)) = true := decide_eq_true (by omega)
      have z2 : decide (504 < U + m) = true := decide_eq_true hf
      have HE := Lib.hid (show apE s.S L = 5 by rw [apE, if_pos HM.out, ← HUU.out, ← HBS.out, ← HMM.out, if_pos hf])
      clear hf
      go_wp2_with fail
      go_ret
      exact ⟨ret_int (by rw [HE.out]), by rw [MS.append, if_neg (by rw [HE.out]; simp)]; exact H2.out, Turn.grow HG2.out _⟩
    · have z1 : decide ((504 : Int) < (U : Int) + (m : Int)) = false := decide_eq_false (by omega)
      have z2 : decide (504 < U + m) = false := decide_eq_false hf
      have hUm : U + m ≤ 504 := by omega
      have HE := Lib.hid (show apE s.S L = 0 by rw [apE, if_pos HM.out, ← HUU.out, ← HBS.out, ← HMM.out, if_neg hf])
      clear hf
      go_wp2_with fail
      refine (rl_keep H2.out HO2.out.sl (HO2.out.out HLT.out) _).mono ?_
      rintro e w3 ⟨rfl, h3, t3⟩
      have H3 := Lib.hid h3
      have HT3 := Lib.hid ((Turn.grow HG2.out x.F).and t3)
      have d1 := h3.2.1.c3.2.1
      clear h3 t3 c1 c2
      go_wp2_with fail
      have HA : ∀ w4 A4 c4, Own w4 w3.heap.size A4 8 c4 (leB (U + m) 8) → Grow w3 w4 → ∀ w5, Grow w4 w5 → Calls Try.prog 54 #[.pointer (some ⟨l, 0, none⟩), .int .i64 512, .slice A4 8 c4] w5 fun e w' => e = .returned (.tuple #[]) ∧ RL w' l x (s.append L) ∧ Turn x.F w w' := by
        intro w4 A4 c4 o4 g4 w5 g5
        have hx : ∀ k, x.F k → k < w3.heap.size := H3.out.1.lt
        refine (rl_keep (H3.out.keep (g4.trans g5)) (o4.sl.keep g5) (o4.out hx) 512).mono ?_
        rintro e w' ⟨rfl, h5, t5⟩
        refine ⟨rfl, ?_, (HT3.out.and (Turn.grow (g4.trans g5) _)).and t5⟩
        rw [MS.append, if_pos HE.out, ← HUU.out, ← HBS.out, ← HMM.out]
        exact h5
      have HAA := Lib.hid HA
      have y1 : IntKind.i64.wrap ((U : Int) + (m : Int)) = (U : Int) + (m : Int) := IntWalk.i64_in _ (by omega)
      clear HA
      go_region_held3 (fun w' => w'.cell? ⟨l, 1, none⟩ = some (.int .i64 512)) (first | exact d1 | exact f1 | exact g1) ((first
        | (go_at_call 39; refine (rput_end U m (by omega)).mono ?_; rintro e w4 ⟨A4, c4, rfl, o4, g4⟩; have G4 : Grow w3 w4 := Grow.trans (by (repeat (first | exact Grow.refl _ | refine Grow.drew ?_ | refine Grow.drewN ?_ _))) g4; have o4' := o4.low (B := w3.heap.size) (Nat.le_refl _); have f1 := G4.cell d1)
        | (go_at_call 54; refine (HAA.out w4 A4 c4 o4' G4 _ ?_).mono ?_; (repeat (first | exact Grow.refl _ | refine Grow.drew ?_ | refine Grow.drewN ?_ _)); rintro e w6 ⟨rfl, h6, t6⟩; have g1 := h6.2.1.c3.2.1)))
      all_goals
        clear g1
        have H6 := Lib.hid h6
        have HT6 := Lib.hid t6
        clear h6 t6
        go_wp2_with fail
        go_ret
        exact ⟨ret_int (by rw [HE.out]), H6.out, HT6.out⟩
  · have HE := Lib.hid (show apE s.S L = 1 by rw [apE, hm]; rfl)
    have HG := Lib.hid g1
    clear hm g1
    go_wp2_with fail
    go_ret
    exact ⟨ret_int (by rw [HE.out]), by rw [MS.append, if_neg (by rw [HE.out]; simp)]; exact H.out.keep HG.out, Turn.grow HG.out _⟩
end Go.Proofs.Ytncjfljmnkfghaa

namespace Go.Proofs.Ytncjfljmnkfghaa
open Go.RowKit

section
variable {w w' : World} {l p bx : Nat} {r : PT} {F : Nat → Prop}
theorem redo3_grow (g : Grow w w') (h : w.cell? ⟨l, 0, none⟩ = some (.pointer (some ⟨p, 0, none⟩)) ∧ w.cell? ⟨bx, 0, none⟩ = some (.int .i64 r.pos) ∧ w.cell? ⟨bx, 1, none⟩ = some (.string r.dat)) : w'.cell? ⟨l, 0, none⟩ = some (.pointer (some ⟨p, 0, none⟩)) ∧ w'.cell? ⟨bx, 0, none⟩ = some (.int .i64 r.pos) ∧ w'.cell? ⟨bx, 1, none⟩ = some (.string r.dat) := ⟨g.cell h.1, g.cell h.2.1, g.cell h.2.2⟩
theorem redo3_turn (t : Turn F w w') (h2 : ¬ F l) (h3 : ¬ F bx) (h : w.cell? ⟨l, 0, none⟩ = some (.pointer (some ⟨p, 0, none⟩)) ∧ w.cell? ⟨bx, 0, none⟩ = some (.int .i64 r.pos) ∧ w.cell? ⟨bx, 1, none⟩ = some (.string r.dat)) : w'.cell? ⟨l, 0, none⟩ = some (.pointer (some ⟨p, 0, none⟩)) ∧ w'.cell? ⟨bx, 0, none⟩ = some (.int .i64 r.pos) ∧ w'.cell? ⟨bx, 1, none⟩ = some (.string r.dat) := ⟨t.cell' h.1 h2, t.cell' h.2.1 h3, t.cell' h.2.2 h3⟩
end
theorem rl_store_ok {w wz : World} {l : Nat} {x : MB} {s : MS} (h : RL w l x s) (r : PT) (hin : inW 1024 r.pos r.dat.size = true) (g : Grow w wz) (k c : Nat) (hk : w.heap.size ≤ k) (hs : Sl wz (some ⟨k, 0, none⟩) r.dat.size r.txt) :
    Calls Try.prog 68 #[.pointer (some ⟨x.p, 0, none⟩), .int .i64 r.pos, .slice (some ⟨k, 0, none⟩) r.dat.size c] wz fun e w' => e = .returned (.int .i64 0) ∧ RL w' l x (s.store r.pos r.txt) ∧ Turn x.F wz w' ∧ Turn x.F w w' := by
  refine (rm_storeU (h.1.keep g) hs (fun _ p hp q => ?_) r.pos).mono ?_
  · injection hp with hp
    subst hp
    have q' : x.F k := q
    have := h.1.lt k q'
    omega
  rintro e w' ⟨rfl, h5, t5⟩
  rw [show inW (8 * 128) r.pos r.dat.size = true from hin]
  have hl : r.txt.length = r.dat.size := hs.1
  refine ⟨rfl, ⟨?_, (h.2.1.keep g).turn t5 h.2.2, h.2.2⟩, t5, (Turn.grow g _).and t5⟩
  simp only [MS.store]
  rw [hl]
  exact h5
theorem rl_store_no {w wz : World} {l : Nat} {x : MB} {s : MS} (h : RL w l x s) (r : PT) (hin : inW 1024 r.pos r.dat.size = false) (g : Grow w wz) (k c : Nat) (hk : w.heap.size ≤ k) (hs : Sl wz (some ⟨k, 0, none⟩) r.dat.size r.txt) :
    Calls Try.prog 68 #[.pointer (some ⟨x.p, 0, none⟩), .int .i64 r.pos, .slice (some ⟨k, 0, none⟩) r.dat.size c] wz fun e w' => e = .returned (.int .i64 1) ∧ RL w' l x s ∧ Turn x.F wz w' ∧ Turn x.F w w' := by
  refine (rm_storeU (h.1.keep g) hs (fun _ p hp q => ?_) r.pos).mono ?_
  · injection hp with hp
    subst hp
    have q' : x.F k := q
    have := h.1.lt k q'
    omega
  rintro e w' ⟨rfl, h5, t5⟩
  rw [show inW (8 * 128) r.pos r.dat.size = false from hin]
  have hl : r.txt.length = r.dat.size := hs.1
  refine ⟨rfl, ⟨?_, (h.2.1.keep g).turn t5 h.2.2, h.2.2⟩, t5, (Turn.grow g _).and t5⟩
  have e := store_no (s := s) hin
  rw [← e]
  simp only [MS.store]
  rw [hl]
  exact h5
theorem rl_flush_at {w wz : World} {l : Nat} {x : MB} {s : MS} (h : RL w l x s) (r : PT) (g : Grow w wz) :
    Calls Try.prog 69 #[.pointer (some ⟨x.p, 0, none⟩), .int .i64 r.pos, .int .i64 (r.dat.size : Nat)] wz fun e w' => ∃ er, e = .returned (.int .i64 er) ∧ RL w' l x (s.flush r.pos r.dat.size) ∧ Turn x.F wz w' ∧ Turn x.F w w' := by
  refine (rm_flushU (h.1.keep g) r.pos (r.dat.size : Nat)).mono ?_
  rintro e w' ⟨rfl, h5, t5⟩
  exact ⟨_, rfl, ⟨h5, (h.2.1.keep g).turn t5 h.2.2, h.2.2⟩, t5, (Turn.grow g _).and t5⟩

def RedoIn (w wr : World) (l : Nat) (x : MB) (s : MS) (L : List PT) (t : Value) : Prop := ∃ k : Nat, t = .int .i64 (k : Int) ∧ k ≤ L.length ∧ RL wr l x (s.patches (L.take k)) ∧ Turn x.F w wr
def RedoOut (w wr : World) (l : Nat) (x : MB) (s : MS) (LL : List (List PT)) (t : Value) : Prop := ∃ i : Nat, t = .int .i64 (i : Int) ∧ i ≤ LL.length ∧ RL wr l x (s.redone (LL.take i)) ∧ Turn x.F w wr

set_option maxHeartbeats 8000000 in
set_option maxRecDepth 8000 in
theorem rl_redo {w : World} {l : Nat} {x : MB} {s : MS} (h : RL w l x s) :
    Calls Try.prog 66 #[.pointer (some ⟨l, 0, none⟩)] w fun e w' => e = .returned (.int .i64 ((lgL s.S).length : Nat)) ∧ RL w' l x s.redo ∧ Turn x.F w w' := by
  have H := Lib.hid h
  have HF := Lib.hid (recs_few ⟨s.S, s.T, s.A⟩ h.lenS)
  have HLT := Lib.hid h.1.lt
  clear h
  go_enter Try.func66, Try.ntmps66
  go_wp2_with fail
  refine (rl_read H.out).mono ?_
  rintro e w1 ⟨v, R, rfl, how, hRL, g1⟩
  have hRl : R.length = (lgL s.S).length := by rw [← hRL, List.length_map]
  have hRn : R.length ≤ 63 := by rw [hRl]; exact HF.out
  obtain ⟨A, c, rfl, -, -⟩ := how.rv (by omega)
  obtain ⟨n, hn⟩ : ∃ n, n = R.length := ⟨_, rfl⟩
  obtain ⟨LL, hLL⟩ : ∃ LL, LL = lgL s.S := ⟨_, rfl⟩
  rw [← hn] at hRn how ⊢
  have HN0 := Lib.hid (show LL.length = n by rw [hLL, hn, hRl])
  have HOW := Lib.hid how
  have HRL := Lib.hid hRL
  have HLL := Lib.hid hLL
  have HNR := Lib.hid hn
  have H1 := Lib.hid (H.out.keep g1)
  have HG1 := Lib.hid g1
  clear how hRL hRl hn hLL g1
  go_wp2_with fail
  go_loopw [5] (fun t wr => RedoOut w1 wr l x s LL t) (fun t _ => n - (intOf t).toNat)
  case atStart => exact ⟨0, by simp, Nat.zero_le _, H1.out, Turn.refl _ _⟩
  case round =>
    obtain ⟨i, rfl, hi, hlg, ht⟩ := hrel
    have HL1 := Lib.hid hlg
    have HT1 := Lib.hid ht
    have hi' : i ≤ n := by have := HN0.out; omega
    clear hlg ht hi
    by_cases hilt : i < n
    · obtain ⟨A', c', e', -, hrv⟩ := HOW.out.rv (by have := HNR.out; omega)
      injection e' with e1 e2 e3
      subst e1
      rw [← HNR.out] at hrv
      obtain ⟨b, o, rw0, hri, rfl, -, cr, op⟩ := hrv.at_ hilt
      have hLi : LL[i]? = some rw0.L := by
        have h1 : (R.map RW.L)[i]? = some rw0.L := by rw [List.getElem?_map, hri]; rfl
        rw [HRL.out, ← HLL.out] at h1
        exact h1
      have HST := Lib.hid (redone_step (s := s) hLi)
      have hfew := rcL_few _ (lgB s.S) (Nat.le_refl _) rw0.L (by have := List.mem_of_getElem? hLi; rw [HLL.out] at this; exact this)
      obtain ⟨u, L⟩ := rw0
      simp only at cr op HST hfew
      have hmem := List.mem_of_getElem? hri
      have opw := HOW.out.2.1 _ hmem
      simp only at opw
      obtain ⟨Ai, ci, rfl, -, hrp⟩ := op.rp (by have := hfew.1; omega)
      obtain ⟨m, hm⟩ : ∃ m, m = L.length := ⟨_, rfl⟩
      rw [← hm] at cr opw hrp
      have hL : m ≤ 64 := by rw [hm]; exact hfew.1
      have HN := Lib.hid hm
      have HWW := Lib.hid hfew.2
      have HCR := Lib.hid cr
      have HRP := Lib.hid hrp
      have hbF : ¬ x.F b := fun q => by have := HLT.out b q; have := (World.ownsRow.lt HOW.out.1 b rfl).1; omega
      have HAF := Lib.hid (show 0 < m → ∀ p, Ai = some p → ¬ x.F p.block from fun _ p hp q => by
        have q1 := HLT.out _ q
        have q2 := (World.ownsRow.lt opw p.block (by rw [hp]; rfl)).1
        omega)
      clear e2 e3 hrv hri hLi hfew hmem op opw hm cr hrp
      obtain ⟨sO, hsO⟩ : ∃ sO, sO = s.redone (LL.take i) := ⟨_, rfl⟩
      rw [← hsO] at HL1 HST
      clear hsO
      go_wp2_with fail
      go_loopw [6] (fun t wr => RedoIn w1 wr l x sO L t) (fun t _ => m - (intOf t).toNat)
      case atStart => exact ⟨0, by simp, Nat.zero_le _, HL1.out, HT1.out⟩
      case round =>
        obtain ⟨k, rfl, hk, hlg, ht⟩ := hrel
        have HLG := Lib.hid hlg
        have HT := Lib.hid ht
        have hk' : k ≤ m := by rw [HN.out]; exact hk
        have cr := HT.out.cell' HCR.out hbF
        clear hlg ht hk
        by_cases hlt : k < m
        · have R1 : RP wr Ai m L := RP.turn HRP.out HT.out HAF.out
          obtain ⟨b', o', r, hrk, rfl, hb, d0, d1⟩ := R1.at_ hlt
          have hrm : r.dat.size ≤ 1000 := by have := HWW.out r (List.mem_of_getElem? hrk); omega
          have HRK := Lib.hid (patches_step (s := sO) hrk)
          have cl := HLG.out.2.1.c3.1
          obtain ⟨s2, hs2⟩ : ∃ s2, s2 = sO.patches (L.take k) := ⟨_, rfl⟩
          rw [← hs2] at HLG HRK
          clear hrk R1 hs2
          cases hin : inW 1024 r.pos r.dat.size with
          | true =>
            have HIN := Lib.hid hin
            clear hin
            go_wp2_with fail
            obtain ⟨wa, hwa⟩ : ∃ wa, wa = wr.alloc (.cells #[.int .i64 r.pos, .string r.dat] 50) := ⟨_, rfl⟩
            obtain ⟨bx, hbx⟩ : ∃ bx, bx = wr.heap.size := ⟨_, rfl⟩
            have NB := Row.new wr 50 [.int .i64 r.pos, .string r.dat] _ rfl
            have gA := (Grow.refl wr).alloc (.cells #[.int .i64 r.pos, .string r.dat] 50)
            rw [← hwa, ← hbx] at NB
            rw [← hwa] at gA
            have HGA := Lib.hid gA
            have hbF2 : ¬ x.F bx := fun q => by have := HLG.out.1.lt bx q; omega
            have hwz : wr.heap.size ≤ wa.heap.size := gA.size
            have hsS : (wa.cell? ⟨l, 0, none⟩ = some (.pointer (some ⟨x.p, 0, none⟩)) ∧ wa.cell? ⟨bx, 0, none⟩ = some (.int .i64 r.pos) ∧ wa.cell? ⟨bx, 1, none⟩ = some (.string r.dat)) := ⟨gA.cell cl, NB.1.c2.1, NB.1.c2.2⟩
            have HFS := Lib.hid (And.intro HLG.out.2.2 hbF2)
            rw [← hwa, ← hbx]
            have kc := fun (u : World) => Lib.run_convert_string_bytes (P := Try.prog) u 9 24 5 r.dat Try.underlying9 Try.underlying24 Try.underlying5
            clear hwa hbx NB gA d0 d1 cl cr
            refine wp_region_held_drew (S := fun w' => w'.cell? ⟨l, 0, none⟩ = some (.pointer (some ⟨x.p, 0, none⟩)) ∧ w'.cell? ⟨bx, 0, none⟩ = some (.int .i64 r.pos) ∧ w'.cell? ⟨bx, 1, none⟩ = some (.string r.dat)) (by kernel_rfl) ?_ (fun hHeld => ?_)
            · exact hsS
            refine wpAnyH_take (i := 0) (oi := _) (v := ?_) rfl (by kernel_rfl) (by kernel_rfl) (by kernel_rfl) (fun _ _ _ h => h) (Or.inl ⟨by rfl, ?_⟩) (by assumption) ?_
            rotate_left
            · (intro w hSw; (try dsimp only at hSw); go_simp; (try with_reducible rfl))
            simp only [Act.put, List.setIfInBounds_toArray]
            refine wpAnyH_take (i := 1) (oi := _) (v := ?_) rfl (by kernel_rfl) (by kernel_rfl) (by kernel_rfl) (fun _ _ _ h => h) (Or.inl ⟨by rfl, ?_⟩) (by assumption) ?_
            rotate_left
            · (intro w hSw; (try dsimp only at hSw); go_simp; (try with_reducible rfl))
            simp only [Act.put]
            refine wpAnyH_take (i := 2) (oi := _) (v := ?_) rfl (by kernel_rfl) (by kernel_rfl) (by kernel_rfl) (fun _ _ _ h => h) (Or.inl ⟨by rfl, ?_⟩) (by assumption) ?_
            rotate_left
            · (intro w hSw; (try dsimp only at hSw); go_simp; (try with_reducible rfl))
            simp only [Act.put]
            refine wpAnyH_take (i := 3) (oi := _) (v := ?_) rfl (by kernel_rfl) (by kernel_rfl) (by kernel_rfl) (fun _ _ _ h => h) (Or.inl ⟨by rfl, ?_⟩) (by assumption) ?_
            rotate_left
            · (intro w hSw; (try dsimp only at hSw); go_simp; (try with_reducible rfl))
            simp only [Act.put]
            refine wpAnyH_take (i := 4) (oi := _) (v := ?_) rfl (by kernel_rfl) (by kernel_rfl) (by kernel_rfl) (fun _ _ _ h => h) (Or.inl ⟨by rfl, ?_⟩) (by assumption) ?_
            rotate_left
            · (intro w hSw; (try dsimp only at hSw); go_simp; (try with_reducible rfl))
            simp only [Act.put]
            refine wpAnyH_take (i := 5) (oi := _) (v := ?_) rfl (by kernel_rfl) (by kernel_rfl) (by kernel_rfl) (fun _ _ _ h => h) (Or.inl ⟨by rfl, ?_⟩) (by assumption) ?_
            rotate_left
            · (intro w hSw; (try dsimp only at hSw); go_simp; (try with_reducible rfl))
            simp only [Act.put]
            refine wpAnyH_take (i := 6) (oi := _) (v := ?_) rfl (by kernel_rfl) (by kernel_rfl) (by kernel_rfl) (fun _ _ _ h => h) (Or.inl ⟨by rfl, ?_⟩) (by assumption) ?_
            rotate_left
            · (intro w hSw; (try dsimp only at hSw); go_simp; (try with_reducible rfl))
            simp only [Act.put]
            refine wpAnyH_take (i := 7) (oi := _) (v := ?_) rfl (by kernel_rfl) (by kernel_rfl) (by kernel_rfl) (fun _ _ _ h => h) (Or.inl ⟨by rfl, ?_⟩) (by assumption) ?_
            rotate_left
            · (intro w hSw; (try dsimp only at hSw); go_simp; (try with_reducible rfl))
            simp only [Act.put]
            refine wpAnyH_ready (rs := [8]) (by kernel_rfl) (by simp) ?_
            refine AllReadyH.cons (o := _) rfl (fun K hK => ?_) AllReadyH.nil
            go_simp
            refine hK.out _ _ (redo3_grow (bytesGrow _ _) (by assumption)) (fun hHeld2 => ?_)
            clear hK K
            refine wpAnyH_ready (rs := [9]) (by kernel_rfl) (by simp) ?_
            refine AllReadyH.cons (o := _) rfl (fun K hK => ?_) AllReadyH.nil
            go_simp
            refine (rl_store_ok HLG.out r HIN.out ?_ _ _ ?_ ?_).mono ?_; (repeat (first | exact Grow.refl _ | exact HGA.out | refine Grow.drew ?_ | refine Grow.drewN ?_ _ | refine Grow.trans ?_ (bytesGrow _ _))); (first | exact hwz | (simp; exact hwz)); (first | exact (bytes_of _ _ (by omega)).1 | exact (bytes_of _ _ (by omega)).1.drew); rintro e w5 ⟨rfl, h5, t5, t6⟩; have hs5 := redo3_turn (r := r) t5 HFS.out.1 HFS.out.2 (by assumption)
            refine hK.out _ _ hs5 (fun hHeld5 => ?_)
            clear hK K
            refine wpAnyH_take (i := 10) (oi := { dst := some 45, op := .binOp .eql 25 (.tmp 44) (.const (.int .i64 0)) 25, type := 4, pos := _, after := #[{ on := 9, ground := .data }], guard := none }) (v := ?_) rfl (by kernel_rfl) (by kernel_rfl) (by kernel_rfl) (fun _ _ _ h => h) (Or.inl ⟨by rfl, ?_⟩) (by assumption) ?_
            rotate_left
            · (intro w hSw; (try dsimp only at hSw); go_simp; (try with_reducible rfl))
            simp only [Act.put, List.setIfInBounds_toArray]
            refine wpAnyH_done (by kernel_rfl) ?_ _
            all_goals
              have H5 := Lib.hid h5
              have HT5 := Lib.hid (HT.out.and t6)
              clear h5 t5 t6 kc hsS
              go_wp2_with fail
              go_region_held3 (fun w' => w'.cell? ⟨l, 0, none⟩ = some (.pointer (some ⟨x.p, 0, none⟩)) ∧ w'.cell? ⟨bx, 0, none⟩ = some (.int .i64 r.pos) ∧ w'.cell? ⟨bx, 1, none⟩ = some (.string r.dat)) (first | exact hs5 | exact hs6) ((go_at_call 69; refine (rl_flush_at H5.out r ?_).mono ?_; (repeat (first | exact Grow.refl _ | refine Grow.drew ?_ | refine Grow.drewN ?_ _)); rintro e w6 ⟨er, rfl, h6, t6, t7⟩; have hs6 := redo3_turn (r := r) t6 HFS.out.1 HFS.out.2 (by assumption)))
              all_goals
                have H6 := Lib.hid h6
                have HT7 := Lib.hid (HT5.out.and t7)
                clear h6 t6 t7 hs5 hs6
                have X : RedoIn w1 w6 l x sO L (.int .i64 ((k : Int) + 1)) := ⟨k + 1, by simp, by have := HN.out; omega, by rw [HRK.out, MS.patch, if_pos HIN.out]; exact H6.out, HT7.out⟩
                have HX := Lib.hid X
                clear X
                go_wp2_with fail
                have e5 : wrap64 ((k : Int) + 1) = (k : Int) + 1 := IntWalk.wrap64_in _ (by omega)
                go_roundw
                case rel => (try rw [e5]); first | exact HX.out | ((repeat apply Exists.intro); exact HX.out) | ((repeat apply Exists.intro); refine ⟨HX.out, ?_⟩; rfl)
                case measure => first | exact measP hlt | exact measPW hlt e5
          | false =>
            have HIN := Lib.hid hin
            clear hin
            go_wp2_with fail
            obtain ⟨wa, hwa⟩ : ∃ wa, wa = wr.alloc (.cells #[.int .i64 r.pos, .string r.dat] 50) := ⟨_, rfl⟩
            obtain ⟨bx, hbx⟩ : ∃ bx, bx = wr.heap.size := ⟨_, rfl⟩
            have NB := Row.new wr 50 [.int .i64 r.pos, .string r.dat] _ rfl
            have gA := (Grow.refl wr).alloc (.cells #[.int .i64 r.pos, .string r.dat] 50)
            rw [← hwa, ← hbx] at NB
            rw [← hwa] at gA
            have HGA := Lib.hid gA
            have hbF2 : ¬ x.F bx := fun q => by have := HLG.out.1.lt bx q; omega
            have hwz : wr.heap.size ≤ wa.heap.size := gA.size
            have hsS : (wa.cell? ⟨l, 0, none⟩ = some (.pointer (some ⟨x.p, 0, none⟩)) ∧ wa.cell? ⟨bx, 0, none⟩ = some (.int .i64 r.pos) ∧ wa.cell? ⟨bx, 1, none⟩ = some (.string r.dat)) := ⟨gA.cell cl, NB.1.c2.1, NB.1.c2.2⟩
            have HFS := Lib.hid (And.intro HLG.out.2.2 hbF2)
            rw [← hwa, ← hbx]
            have kc := fun (u : World) => Lib.run_convert_string_bytes (P := Try.prog) u 9 24 5 r.dat Try.underlying9 Try.underlying24 Try.underlying5
            clear hwa hbx NB gA d0 d1 cl cr
            refine wp_region_held_drew (S := fun w' => w'.cell? ⟨l, 0, none⟩ = some (.pointer (some ⟨x.p, 0, none⟩)) ∧ w'.cell? ⟨bx, 0, none⟩ = some (.int .i64 r.pos) ∧ w'.cell? ⟨bx, 1, none⟩ = some (.string r.dat)) (by kernel_rfl) ?_ (fun hHeld => ?_)
            · exact hsS
            refine wpAnyH_take (i := 0) (oi := _) (v := ?_) rfl (by kernel_rfl) (by kernel_rfl) (by kernel_rfl) (fun _ _ _ h => h) (Or.inl ⟨by rfl, ?_⟩) (by assumption) ?_
            rotate_left
            · (intro w hSw; (try dsimp only at hSw); go_simp; (try with_reducible rfl))
            simp only [Act.put, List.setIfInBounds_toArray]
            refine wpAnyH_take (i := 1) (oi := _) (v := ?_) rfl (by kernel_rfl) (by kernel_rfl) (by kernel_rfl) (fun _ _ _ h => h) (Or.inl ⟨by rfl, ?_⟩) (by assumption) ?_
            rotate_left
            · (intro w hSw; (try dsimp only at hSw); go_simp; (try with_reducible rfl))
            simp only [Act.put]
            refine wpAnyH_take (i := 2) (oi := _) (v := ?_) rfl (by kernel_rfl) (by kernel_rfl) (by kernel_rfl) (fun _ _ _ h => h) (Or.inl ⟨by rfl, ?_⟩) (by assumption) ?_
            rotate_left
            · (intro w hSw; (try dsimp only at hSw); go_simp; (try with_reducible rfl))
            simp only [Act.put]
            refine wpAnyH_take (i := 3) (oi := _) (v := ?_) rfl (by kernel_rfl) (by kernel_rfl) (by kernel_rfl) (fun _ _ _ h => h) (Or.inl ⟨by rfl, ?_⟩) (by assumption) ?_
            rotate_left
            · (intro w hSw; (try dsimp only at hSw); go_simp; (try with_reducible rfl))
            simp only [Act.put]
            refine wpAnyH_take (i := 4) (oi := _) (v := ?_) rfl (by kernel_rfl) (by kernel_rfl) (by kernel_rfl) (fun _ _ _ h => h) (Or.inl ⟨by rfl, ?_⟩) (by assumption) ?_
            rotate_left
            · (intro w hSw; (try dsimp only at hSw); go_simp; (try with_reducible rfl))
            simp only [Act.put]
            refine wpAnyH_take (i := 5) (oi := _) (v := ?_) rfl (by kernel_rfl) (by kernel_rfl) (by kernel_rfl) (fun _ _ _ h => h) (Or.inl ⟨by rfl, ?_⟩) (by assumption) ?_
            rotate_left
            · (intro w hSw; (try dsimp only at hSw); go_simp; (try with_reducible rfl))
            simp only [Act.put]
            refine wpAnyH_take (i := 6) (oi := _) (v := ?_) rfl (by kernel_rfl) (by kernel_rfl) (by kernel_rfl) (fun _ _ _ h => h) (Or.inl ⟨by rfl, ?_⟩) (by assumption) ?_
            rotate_left
            · (intro w hSw; (try dsimp only at hSw); go_simp; (try with_reducible rfl))
            simp only [Act.put]
            refine wpAnyH_take (i := 7) (oi := _) (v := ?_) rfl (by kernel_rfl) (by kernel_rfl) (by kernel_rfl) (fun _ _ _ h => h) (Or.inl ⟨by rfl, ?_⟩) (by assumption) ?_
            rotate_left
            · (intro w hSw; (try dsimp only at hSw); go_simp; (try with_reducible rfl))
            simp only [Act.put]
            refine wpAnyH_ready (rs := [8]) (by kernel_rfl) (by simp) ?_
            refine AllReadyH.cons (o := _) rfl (fun K hK => ?_) AllReadyH.nil
            go_simp
            refine hK.out _ _ (redo3_grow (bytesGrow _ _) (by assumption)) (fun hHeld2 => ?_)
            clear hK K
            refine wpAnyH_ready (rs := [9]) (by kernel_rfl) (by simp) ?_
            refine AllReadyH.cons (o := _) rfl (fun K hK => ?_) AllReadyH.nil
            go_simp
            refine (rl_store_no HLG.out r HIN.out ?_ _ _ ?_ ?_).mono ?_; (repeat (first | exact Grow.refl _ | exact HGA.out | refine Grow.drew ?_ | refine Grow.drewN ?_ _ | refine Grow.trans ?_ (bytesGrow _ _))); (first | exact hwz | (simp; exact hwz)); (first | exact (bytes_of _ _ (by omega)).1 | exact (bytes_of _ _ (by omega)).1.drew); rintro e w5 ⟨rfl, h5, t5, t6⟩; have hs5 := redo3_turn (r := r) t5 HFS.out.1 HFS.out.2 (by assumption)
            refine hK.out _ _ hs5 (fun hHeld5 => ?_)
            clear hK K
            refine wpAnyH_take (i := 10) (oi := { dst := some 45, op := .binOp .eql 25 (.tmp 44) (.const (.int .i64 0)) 25, type := 4, pos := _, after := #[{ on := 9, ground := .data }], guard := none }) (v := ?_) rfl (by kernel_rfl) (by kernel_rfl) (by kernel_rfl) (fun _ _ _ h => h) (Or.inl ⟨by rfl, ?_⟩) (by assumption) ?_
            rotate_left
            · (intro w hSw; (try dsimp only at hSw); go_simp; (try with_reducible rfl))
            simp only [Act.put, List.setIfInBounds_toArray]
            refine wpAnyH_done (by kernel_rfl) ?_ _
            all_goals
              have H5 := Lib.hid h5
              have HT5 := Lib.hid (HT.out.and t6)
              clear h5 t5 t6 kc hsS
              clear hs5
              have X : RedoIn w1 w5 l x sO L (.int .i64 ((k : Int) + 1)) := ⟨k + 1, by simp, by have := HN.out; omega, by rw [HRK.out, MS.patch, if_neg (by rw [HIN.out]; simp)]; exact H5.out, HT5.out⟩
              have HX := Lib.hid X
              clear X
              go_wp2_with fail
              have e5 : wrap64 ((k : Int) + 1) = (k : Int) + 1 := IntWalk.wrap64_in _ (by omega)
              go_roundw
              case rel => (try rw [e5]); first | exact HX.out | ((repeat apply Exists.intro); exact HX.out) | ((repeat apply Exists.intro); refine ⟨HX.out, ?_⟩; rfl)
              case measure => first | exact measP hlt | exact measPW hlt e5
        · obtain rfl : k = m := by omega
          have HLE := Lib.hid (show sO.patches (L.take k) = sO.patches L by rw [List.take_of_length_le (by rw [← HN.out]; exact Nat.le_refl _)])
          have X : RedoOut w1 wr l x s LL (.int .i64 ((i : Int) + 1)) := ⟨i + 1, by simp, by have := HN0.out; omega, by rw [HST.out, ← HLE.out]; exact HLG.out, HT.out⟩
          have HX := Lib.hid X
          clear X hlt
          go_wp2_with fail
          have e5 : wrap64 ((i : Int) + 1) = (i : Int) + 1 := IntWalk.wrap64_in _ (by omega)
          go_roundw
          case rel => (try rw [e5]); first | exact HX.out | ((repeat apply Exists.intro); exact HX.out) | ((repeat apply Exists.intro); refine ⟨HX.out, ?_⟩; rfl)
          case measure => first | exact measP hilt | exact measPW hilt e5
    · obtain rfl : i = n := by omega
      have h3 := HL1.out
      rw [List.take_of_length_le (by rw [HN0.out]; exact Nat.le_refl _)] at h3
      have H2 := Lib.hid h3
      have c0 := h3.2.1.c3.1
      have HT2 := Lib.hid ((Turn.grow HG1.out x.F).and HT1.out)
      clear h3 hilt
      go_wp2_with fail
      refine (rm_fence H2.out.1).mono ?_
      rintro e w3 ⟨rfl, hP3, t3⟩
      have H3 := Lib.hid (show RL w3 l x (s.redone LL).fence from ⟨hP3, H2.out.2.1.turn t3 H2.out.2.2, H2.out.2.2⟩)
      have HT3 := Lib.hid (HT2.out.and t3)
      clear hP3 t3 c0
      go_wp2_with fail
      refine (rl_clear H3.out).mono ?_
      rintro e w4 ⟨rfl, h4, t4⟩
      have H4 := Lib.hid h4
      have HT4 := Lib.hid (HT3.out.and t4)
      clear h4 t4
      go_wp2_with fail
      go_ret
      exact ⟨ret_int (by rw [← HLL.out, HN0.out]), by rw [MS.redo, ← HLL.out]; exact H4.out, HT4.out⟩
end Go.Proofs.Ytncjfljmnkfghaa

namespace Go.Proofs.Ytncjfljmnkfghaa
open Go.RowKit

theorem rm_new_no (n : Int) (h : sizeB n = false) (w : World) :
    Calls Try.prog 50 #[.int .i64 n] w fun e w' => e = .returned (.pointer none) ∧ w = w' := by
  have h0 : ¬ (64 ≤ n ∧ n ≤ 1048576 ∧ n % 64 = 0) := fun q => by rw [sizeB_iff.2 q] at h; cases h
  by_cases h1 : n < 64
  · have z1 : decide (n < 64) = true := decide_eq_true h1
    clear h h0 h1
    go_enter Try.func50, Try.ntmps50
    go_wp2_with fail
    go_ret
    exact ⟨rfl, rfl⟩
  · have z1 : decide (n < 64) = false := decide_eq_false h1
    by_cases h2 : 1048576 < n
    · have z2 : decide (1048576 < n) = true := decide_eq_true h2
      clear h h0 h1 h2
      go_enter Try.func50, Try.ntmps50
      go_wp2_with fail
      go_ret
      exact ⟨rfl, rfl⟩
    · have z2 : decide (1048576 < n) = false := decide_eq_false h2
      have z3 : (Int.tmod n 64 != 0) = true := by rw [Int.tmod_eq_emod_of_nonneg (by omega), bne_iff_ne]; omega
      clear h h0 h1 h2
      go_enter Try.func50, Try.ntmps50
      go_wp2_with fail
      go_ret
      exact ⟨rfl, rfl⟩

theorem bool_info : (Try.prog.info? 4).map (fun i => (i.zero, i.size, i.bytes)) = some (some (.bool false), 1, 1) := by kernel_rfl
def zbytes (L : Nat) : Array Value := Array.replicate L (.int .u8 0)
def zbools (N : Nat) : Array Value := Array.replicate N (.bool false)
theorem make_bytes (L : Nat) (hL : L ≤ 1048576) (w : World) : (Instr.makeSlice 24 (.int .i64 (L : Int)) (.int .i64 (L : Int))).run Try.prog w = .ok (.slice (some ⟨w.heap.size, 0, none⟩) L L) (w.alloc (.cells (zbytes L) 5)) := by
  obtain ⟨i0, hi, hz, h1, h2⟩ := info_parts byte_info
  have := run_make (P := Try.prog) w 24 5 i0 _ Try.underlying24 hi hz .i64 .i64 L L (by omega) (Int.le_refl _) (by rw [h2]; omega) (by omega)
  have e : madeCells (Value.int .u8 0).cells (L * 1) = zbytes L := by
    rw [Nat.mul_one]; apply Array.ext
    · simp [madeCells, zbytes]
    · intro j h3 h4; simp [madeCells, zbytes, Value.cells, Nat.mod_one]
  simp only [Int.toNat_natCast, h1, e] at this
  exact this
theorem make_bools (N : Nat) (hN : N ≤ 1048576) (w : World) : (Instr.makeSlice 91 (.int .i64 (N : Int)) (.int .i64 (N : Int))).run Try.prog w = .ok (.slice (some ⟨w.heap.size, 0, none⟩) N N) (w.alloc (.cells (zbools N) 4)) := by
  obtain ⟨i0, hi, hz, h1, h2⟩ := info_parts bool_info
  have := run_make (P := Try.prog) w 91 4 i0 _ Try.underlying91 hi hz .i64 .i64 N N (by omega) (Int.le_refl _) (by rw [h2]; omega) (by omega)
  have e : madeCells (Value.bool false).cells (N * 1) = zbools N := by
    rw [Nat.mul_one]; apply Array.ext
    · simp [madeCells, zbools]
    · intro j h3 h4; simp [madeCells, zbools, Value.cells, Nat.mod_one]
  simp only [Int.toNat_natCast, h1, e] at this
  exact this

theorem zbytes_row {w : World} {g L : Nat} (h : w.heap[g]? = some (.cells (zbytes L) 5)) (hL : L ≤ 1048576) : CR w g 5 1 L L (bvs (List.replicate L 0)) := by
  refine ⟨by simp [bvs], Nat.le_refl _, by unfold maxLen; omega, _, h, by simp [zbytes], ?_⟩
  rw [List.take_of_length_le (by simp [zbytes])]
  simp [zbytes, bvs, bv]
theorem zbools_row {w : World} {g L : Nat} (h : w.heap[g]? = some (.cells (zbools L) 4)) (hL : L ≤ 1048576) : CR w g 4 1 L L (tbs (List.replicate L false)) := by
  refine ⟨by simp [tbs], Nat.le_refl _, by unfold maxLen; omega, _, h, by simp [zbools], ?_⟩
  rw [List.take_of_length_le (by simp [zbools])]
  simp [zbools, tbs]

set_option maxHeartbeats 2000000 in
theorem rm_new_yes (N : Nat) (hN : N % 8 = 0 ∧ 8 ≤ N ∧ N ≤ 131072) (w : World) :
    Calls Try.prog 50 #[.int .i64 (8 * N : Nat)] w fun e w' => ∃ x : MB, e = .returned (.pointer (some ⟨x.p, 0, none⟩)) ∧ RM w' x N (List.replicate (8 * N) 0) (List.replicate (8 * N) 0) (List.replicate N false) ∧ (∀ k, x.F k → w.heap.size ≤ k) ∧ Grow w w' := by
  obtain ⟨n, hn⟩ : ∃ n, n = 8 * N := ⟨_, rfl⟩
  have z1 : decide ((n : Int) < 64) = false := decide_eq_false (by omega)
  have z2 : decide (1048576 < (n : Int)) = false := decide_eq_false (by omega)
  have z3 : (Int.tmod (n : Int) 64 != 0) = false := by rw [Int.tmod_eq_emod_of_nonneg (by omega), show (n : Int) % 64 = 0 by omega]; rfl
  have z4 : ((n : Int) % 64 != 0) = false := by rw [show (n : Int) % 64 = 0 by omega]; rfl
  have e0 : (n : Int) / 8 = (N : Int) := by clear z1 z2 z3 z4; omega
  have e1 : Int.tdiv (n : Int) 8 = (N : Int) := by clear e0; rw [Int.tdiv_eq_ediv_of_nonneg (by omega)]; omega
  have e2 := wrap_small (q := N) (by have := hN.2.2; clear z1 z2 z3 z4 e0 e1; omega)
  have hmk := make_bytes n (by clear z1 z2 z3 z4 e0 e1 e2; omega)
  have hmb := make_bools N (by clear z1 z2 z3 z4 e0 e1 e2; omega)
  have HN := Lib.hid hN
  have HNN := Lib.hid hn
  rw [← hn]
  clear hn hN
  go_enter Try.func50, Try.ntmps50
  go_wp2_with fail
  go_ret
  obtain ⟨q0, q1, q2, q3⟩ := alloc4 w (.cells #[.slice (some ⟨w.heap.size + 1, 0, none⟩) n n, .slice (some ⟨w.heap.size + 1 + 1, 0, none⟩) n n, .slice (some ⟨w.heap.size + 1 + 1 + 1, 0, none⟩) N N] 93) (.cells (zbytes n) 5) (.cells (zbytes n) 5) (.cells (zbools N) 4)
  have hn := HNN.out
  have hN := HN.out
  refine ⟨⟨w.heap.size, w.heap.size + 1, w.heap.size + 1 + 1, w.heap.size + 1 + 1 + 1⟩, rfl, ⟨n, n, N, hN, by unfold MB.apart; simp; try omega, ⟨rfl, Nat.le_refl _, by unfold maxLen; clear e0 e1 e2 z1 z2 z3 z4; omega, _, q0, rfl, ?_⟩, ?_, ?_, ?_⟩, fun k hk => by (rcases hk with h | h | h | h <;> simp at h <;> omega), ((((Grow.refl w).alloc _).alloc _).alloc _).alloc _⟩
  · rw [← hn]; rfl
  · have := zbytes_row q1 (by clear e0 e1 e2 z1 z2 z3 z4; omega); rw [← hn]; exact this
  · have := zbytes_row q2 (by clear e0 e1 e2 z1 z2 z3 z4; omega); rw [← hn]; exact this
  · exact zbools_row q3 (by clear e0 e1 e2 z1 z2 z3 z4; omega)
end Go.Proofs.Ytncjfljmnkfghaa

namespace Go.Proofs.Ytncjfljmnkfghaa
open Go.RowKit

/-- A memory and a log, and the document's, in the same state and apart. -/
structure PX (w : World) (base pb l d : Nat) (x y : MB) (s : MS) : Prop where
  lg : LG w l x s
  rl : RL w d y s
  ap : ∀ k, x.F k → ¬ y.F k
  xd : ¬ x.F d
  yl : ¬ y.F l
  blk : Blk w pb [.pointer (some ⟨x.p, 0, none⟩), .pointer (some ⟨l, 0, none⟩), .pointer (some ⟨y.p, 0, none⟩), .pointer (some ⟨d, 0, none⟩)]
  xp : ¬ x.F pb
  yp : ¬ y.F pb
  xb : ∀ k, x.F k → base ≤ k
  yb : ∀ k, y.F k → base ≤ k
section
variable {w w' w1 w2 : World} {base pb l d : Nat} {x y : MB} {s s' : MS}
theorem PX.keep (h : PX w base pb l d x y s) (g : Grow w w') : PX w' base pb l d x y s :=
  ⟨h.lg.keep g, h.rl.keep g, h.ap, h.xd, h.yl, h.blk.keep g, h.xp, h.yp, h.xb, h.yb⟩
theorem PX.turn {F : Nat → Prop} (h : PX w base pb l d x y s) (t : Turn F w w') (hF : ∀ k, F k → ¬ x.F k ∧ ¬ y.F k ∧ k ≠ l ∧ k ≠ d ∧ k ≠ pb) : PX w' base pb l d x y s :=
  ⟨h.lg.turn t (fun k q => (hF k q).1) (fun q => (hF l q).2.2.1 rfl), h.rl.turn t (fun k q => (hF k q).2.1) (fun q => (hF d q).2.2.2.1 rfl), h.ap, h.xd, h.yl, h.blk.turn t (fun q => (hF pb q).2.2.2.2 rfl), h.xp, h.yp, h.xb, h.yb⟩
/-- A verb of the one, then of the other. -/
theorem PX.both (h : PX w base pb l d x y s) (h1 : LG w1 l x s') (t1 : Turn x.F w w1) (h2 : RL w2 d y s') (t2 : Turn y.F w1 w2) : PX w2 base pb l d x y s' :=
  ⟨h1.turn t2 (fun k q q2 => h.ap k q2 q) h.yl, h2, h.ap, h.xd, h.yl, (h.blk.turn t1 h.xp).turn t2 h.yp, h.xp, h.yp, h.xb, h.yb⟩
theorem PX.rl1 (h : PX w base pb l d x y s) (t1 : Turn x.F w w1) : RL w1 d y s := h.rl.turn t1 (fun k q => h.ap k q) h.xd
theorem PX.blk1 (h : PX w base pb l d x y s) (t1 : Turn x.F w w1) : Blk w1 pb [.pointer (some ⟨x.p, 0, none⟩), .pointer (some ⟨l, 0, none⟩), .pointer (some ⟨y.p, 0, none⟩), .pointer (some ⟨d, 0, none⟩)] := h.blk.turn t1 h.xp
theorem PX.ok (h : PX w base pb l d x y s) : s.ok := ⟨h.lg.1.lenS, h.lg.1.lenT, h.lg.1.lenA⟩
theorem PX.low (h : PX w base pb l d x y s) (hb : base ≤ w.heap.size) (t1 : Turn x.F w w1) (t2 : Turn y.F w1 w2) : Below base w w2 := (t1.low h.xb hb).trans (t2.low h.yb (Nat.le_trans hb t1.size))
end

set_option maxHeartbeats 4000000 in
set_option maxRecDepth 4000 in
theorem begin8 (w : World) : Calls Try.prog 23 #[] w fun e w' => ∃ pb l d x y, e = .returned (.pointer (some ⟨pb, 0, none⟩)) ∧ PX w' w.heap.size pb l d x y fresh ∧ w.heap.size ≤ pb ∧ w.heap.size ≤ l ∧ w.heap.size ≤ d ∧ Grow w w' := by
  go_enter Try.func23, Try.ntmps23
  go_wp2_with fail
  refine (pm_new_yes 128 (by decide) w).mono ?_
  rintro e w1 ⟨x, rfl, hP, hx, g1⟩
  go_wp2_with fail
  refine (pl_new hP 512 512).mono ?_
  rintro e w2 (⟨hm, -, -⟩ | ⟨-, l, rfl, hl, hb, g2⟩)
  case inl => exact absurd hm (by decide)
  have hxl : ∀ k, x.F k → k < w1.heap.size := hP.lt
  have H2 : LG w2 l x fresh := ⟨hP.keep g2, hb, fun q => by have := hP.lt l q; omega⟩
  have G2 := g1.trans g2
  have hz1 := g1.size
  have hz2 := g2.size
  clear hP hb g1 g2
  go_wp2_with fail
  refine (rm_new_yes 128 (by decide) w2).mono ?_
  rintro e w3 ⟨y, rfl, hR, hy, g3⟩
  have hyl : ∀ k, y.F k → k < w3.heap.size := hR.lt
  have hl2 : l < w2.heap.size := H2.2.1.1
  have H3 := Lib.hid (H2.keep g3)
  have HR := Lib.hid hR
  have HG3 := Lib.hid (G2.trans g3)
  have hz3 := g3.size
  have HX := Lib.hid (And.intro hx (And.intro hxl (And.intro hy hyl)))
  clear H2 hR G2 g3 hx hxl hy hyl
  go_wp2_with fail
  go_ret
  obtain ⟨hx, hxl, hy, hyl⟩ := HX.out
  have gg : Grow w3 ((w3.alloc (.cells #[.pointer (some ⟨y.p, 0, none⟩), .int .i64 512, .int .i64 512] 87)).alloc (.cells #[.pointer (some ⟨x.p, 0, none⟩), .pointer (some ⟨l, 0, none⟩), .pointer (some ⟨y.p, 0, none⟩), .pointer (some ⟨w3.heap.size, 0, none⟩)] 47)) := ((Grow.refl w3).alloc _).alloc _
  refine ⟨w3.heap.size + 1, l, w3.heap.size, x, y, by simp, ⟨H3.out.keep gg, ⟨HR.out.keep gg, (Blk.new w3 _ [.pointer (some ⟨y.p, 0, none⟩), .int .i64 512, .int .i64 512] _ (0, 0) rfl).keep ((Grow.refl _).alloc _), fun q => ?_⟩, fun k q q2 => ?_, fun q => ?_, fun q => ?_, ?_, fun q => ?_, fun q => ?_, fun k q => ?_, fun k q => ?_⟩, by omega, by omega, by omega, HG3.out.trans gg⟩
  · have := hyl _ q; omega
  · have := hxl _ q; have := hy _ q2; omega
  · have := hxl _ q; omega
  · have := hy _ q; omega
  · have := Blk.new (w3.alloc (.cells #[.pointer (some ⟨y.p, 0, none⟩), .int .i64 512, .int .i64 512] 87)) 47 [.pointer (some ⟨x.p, 0, none⟩), .pointer (some ⟨l, 0, none⟩), .pointer (some ⟨y.p, 0, none⟩), .pointer (some ⟨w3.heap.size, 0, none⟩)] _ (0, 0) rfl
    rw [World.size_alloc] at this
    exact this
  · have := hxl _ q; omega
  · have := hyl _ q; omega
  · exact hx k q
  · have := hy k q; omega

/-- What a walk wants of the bytes of the document's memory. -/
theorem RM.eyes2 {w : World} {x : MB} {S T : List UInt8} {A : List Bool} (h : RM w x 128 S T A) : ∃ L cs ct, Hid (L = 1024) ∧ L ≤ 1024 ∧ 1024 ≤ L ∧ w.cell? ⟨x.p, 0, none⟩ = some (.slice (some ⟨x.gs, 0, none⟩) L cs) ∧ w.cell? ⟨x.p, 1, none⟩ = some (.slice (some ⟨x.gt, 0, none⟩) L ct) ∧ Sl w (some ⟨x.gs, 0, none⟩) L S ∧ Sl w (some ⟨x.gt, 0, none⟩) L T := by
  have hl := h.lenS
  have hl2 := h.lenT
  obtain ⟨L, cs, ct, ca, HL, h1, h2, -, c0, c1, -, -⟩ := h.look
  have e : L = 1024 := HL.out
  exact ⟨L, cs, ct, Lib.hid e, by omega, by omega, c0, c1, ⟨by omega, by omega, h.seenRB⟩, ⟨by omega, by omega, h.lastRB⟩⟩

set_option maxHeartbeats 8000000 in
set_option maxRecDepth 8000 in
theorem like8 {w : World} {base pb l d : Nat} {x y : MB} {s : MS} (h : PX w base pb l d x y s) :
    Calls Try.prog 28 #[.pointer (some ⟨pb, 0, none⟩)] w fun e w' => e = .returned (.bool true) ∧ Grow w w' := by
  have H := Lib.hid h
  obtain ⟨b0, b1, b2, b3⟩ := h.blk.c4
  obtain ⟨L, cs, ct, HL, hL1, hL2, c0, c1, hs, ht⟩ := h.rl.1.eyes2
  have HS := Lib.hid hs
  have HT := Lib.hid ht
  have HLS := Lib.hid (show (s.S.drop 0).take 1024 = s.S by rw [List.drop_zero, List.take_of_length_le (by rw [h.ok.S]; exact Nat.le_refl _)])
  have HLT := Lib.hid (show (s.T.drop 0).take 1024 = s.T by rw [List.drop_zero, List.take_of_length_le (by rw [h.ok.T]; exact Nat.le_refl _)])
  have HF := Lib.hid (recs_few s h.ok.S)
  clear h hs ht
  go_enter Try.func28, Try.ntmps28
  go_wp2_with fail
  refine (pm_load H.out.lg.1 0 1024 (by decide)).mono ?_
  rintro e w1 ⟨A1, k1, rfl, o1, g1⟩
  rw [HLS.out] at o1
  have s1 := Lib.hid o1.sl
  have d0 := g1.cell b0
  have G1 := Lib.hid g1
  clear o1 g1 b0
  go_wp2_with fail
  refine (pm_lasts (H.out.lg.1.keep G1.out) 0 1024 (by decide)).mono ?_
  rintro e w2 ⟨A2, k2, rfl, o2, g2⟩
  rw [HLT.out] at o2
  have s2 := Lib.hid o2.sl
  have s1' := Lib.hid (s1.out.keep g2)
  have G2 := Lib.hid (G1.out.trans g2)
  have d2 := G2.out.cell b2
  have d4 := G2.out.cell c0
  clear o2 g2 d0 s1
  go_wp2_with fail
  refine (same_yes s1'.out (HS.out.keep G2.out) rfl).mono ?_
  rintro e w3 ⟨rfl, n3, hw3⟩
  have g3 : Grow w2 w3 := by rw [hw3]; exact (Grow.refl _).drewN n3
  have G3 := Lib.hid (G2.out.trans g3)
  have s2' := Lib.hid (s2.out.keep g3)
  have f2 := G3.out.cell b2
  have f5 := G3.out.cell c1
  clear hw3 g3 d2 d4 s2 s1'
  go_wp2_with fail
  refine (same_yes s2'.out (HT.out.keep G3.out) rfl).mono ?_
  rintro e w4 ⟨rfl, n4, hw4⟩
  have g4 : Grow w3 w4 := by rw [hw4]; exact (Grow.refl _).drewN n4
  have G4 := Lib.hid (G3.out.trans g4)
  have f3 := G4.out.cell b3
  clear hw4 g4 f2 f5 s2'
  go_wp2_with fail
  refine (rl_read (H.out.rl.keep G4.out)).mono ?_
  rintro e w5 ⟨v5, R5', rfl, o5, hR5, g5⟩
  have hl5 : R5'.length ≤ 63 := by rw [← List.length_map (f := RW.L), hR5]; exact HF.out
  obtain ⟨A5, c5, rfl, -, rv5⟩ := o5.rv (by omega)
  have RV5 := Lib.hid rv5
  have HR5 := Lib.hid hR5
  have G5 := Lib.hid (G4.out.trans g5)
  have f1 := G5.out.cell b1
  clear o5 hR5 g5 rv5 f3
  go_wp2_with fail
  refine (pl_records (H.out.lg.keep G5.out)).mono ?_
  rintro e w6 ⟨v6, R6, rfl, o6, hR6, g6⟩
  have hl6 : R6.length ≤ 63 := by rw [← List.length_map (f := RW.L), hR6]; exact HF.out
  obtain ⟨A6, c6, rfl, -, rv6⟩ := o6.rv (by omega)
  have hll : R5'.length = R6.length := by have a := congrArg List.length HR5.out; have b := congrArg List.length hR6; rw [List.length_map] at a b; omega
  rw [hll] at RV5 ⊢
  obtain ⟨q, hq⟩ : ∃ q, q = R6.length := ⟨_, rfl⟩
  rw [← hq] at RV5 rv6 hl6 ⊢
  have RV6 := Lib.hid rv6
  have RV5' := Lib.hid (RV5.out.keep g6)
  have G6 := Lib.hid (G5.out.trans g6)
  have HEQ := Lib.hid (show R6.map RW.L = R5'.map RW.L by rw [hR6, HR5.out])
  have HLL := Lib.hid (show ∀ r ∈ R6, r.L.length ≤ 60000 from fun r hr => by
    have := (rcL_few _ (lgB s.S) (Nat.le_refl _) r.L (by have : r.L ∈ R6.map RW.L := List.mem_map_of_mem hr; rw [hR6] at this; exact this)).1
    omega)
  clear o6 hR6 g6 rv6 f1 hll hq
  go_wp2_with fail
  refine (recs_same RV6.out RV5'.out HEQ.out (by omega) HLL.out).mono ?_
  rintro e w7 ⟨rfl, g7⟩
  have G7 := Lib.hid (G6.out.trans g7)
  have H7 := Lib.hid (H.out.keep G7.out)
  have k1 := G7.out.cell b1
  have k3 := G7.out.cell b3
  obtain ⟨E, hE⟩ : ∃ E, E = lgE s.S := ⟨_, rfl⟩
  have HE := Lib.hid hE
  clear g7 hE b1 b2 b3 c0 c1
  go_wp2_with fail
  go_region_held3 (fun w' => w'.cell? ⟨pb, 1, none⟩ = some (.pointer (some ⟨l, 0, none⟩)) ∧ w'.cell? ⟨pb, 3, none⟩ = some (.pointer (some ⟨d, 0, none⟩))) (first | exact ⟨k1, k3⟩ | exact hs8) ((first
    | (go_at_call 33; refine (pl_end (H7.out.lg.keep ?_)).mono ?_; (repeat (first | exact Grow.refl _ | exact G8 | refine Grow.drew ?_ | refine Grow.drewN ?_ _)); rintro e w8 ⟨rfl, g8⟩; rw [← HE.out]; have G8 : Grow w7 w8 := Grow.trans (by (repeat (first | exact Grow.refl _ | exact G8 | refine Grow.drew ?_ | refine Grow.drewN ?_ _))) g8; have hs8 := And.intro (G8.cell k1) (G8.cell k3))
    | (go_at_call 57; refine (rl_end (H7.out.rl.keep ?_)).mono ?_; (repeat (first | exact Grow.refl _ | exact G8 | refine Grow.drew ?_ | refine Grow.drewN ?_ _)); rintro e w8 ⟨rfl, g8⟩; rw [← HE.out]; have G8 : Grow w7 w8 := Grow.trans (by (repeat (first | exact Grow.refl _ | exact G8 | refine Grow.drew ?_ | refine Grow.drewN ?_ _))) g8; have hs8 := And.intro (G8.cell k1) (G8.cell k3))))
  all_goals
    have GG := Lib.hid (G7.out.trans G8)
    clear G8 hs8 k1 k3
    go_wp2_with fail
    go_ret
    exact ⟨rfl, GG.out⟩
end Go.Proofs.Ytncjfljmnkfghaa
