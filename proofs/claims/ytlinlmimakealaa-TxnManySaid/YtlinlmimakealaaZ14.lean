/- plog: each. plog: Clear, Append. plog: Records. plog: Redo. No statement of the seat is proved here. -/
import Derived.Test.YtlinlmimakealaaZ13
import Derived.Lib.ConvBytes
import Derived.Lib.Strings
import Derived.Lib.AtoiErrMem
import Derived.Deep.RegionHeld3
namespace Go.Proofs.Ytlinlmimakealaa
open Go.RowKit

/-- The records are read up to k bytes, i of them. -/
def EachLink (bs : List UInt8) (k i : Nat) : Prop := rcU bs = k + rcU (bs.drop k) ∧ ∃ R, R.length = i ∧ rcL bs = R ++ rcL (bs.drop k)
theorem EachLink.start (bs : List UInt8) : EachLink bs 0 0 := ⟨by simp, [], rfl, by simp⟩
theorem EachLink.step {bs : List UInt8} {k i : Nat} (h : EachLink bs k i) (hd : dpE (bs.drop k) = 0) : EachLink bs (k + dpU (bs.drop k)) (i + 1) ∧ (rcL bs)[i]? = some (dpL (bs.drop k)) := by
  obtain ⟨h1, R, h2, h3⟩ := h
  rw [rcU_go hd, List.drop_drop] at h1
  rw [rcL_go hd, List.drop_drop] at h3
  refine ⟨⟨by omega, R ++ [dpL (bs.drop k)], by simp [h2], by rw [h3]; simp⟩, ?_⟩
  rw [h3, List.getElem?_append_right (by omega), h2, Nat.sub_self]; rfl
theorem EachLink.done {bs : List UInt8} {k i : Nat} (h : EachLink bs k i) (hd : dpE (bs.drop k) ≠ 0) : rcU bs = k ∧ (rcL bs).length = i := by
  obtain ⟨h1, R, h2, h3⟩ := h
  rw [rcU_end hd] at h1
  rw [rcL_end hd, List.append_nil] at h3
  exact ⟨by omega, by rw [h3]; exact h2⟩

def EachInv (w wr : World) (bs : List UInt8) (B : Nat) (J : Nat → Nat → World → Prop) (tb tu : Value) : Prop :=
  ∃ (k i n c : Nat) (A : Option Addr), tb = .slice A n c ∧ tu = .int .i64 (k : Int) ∧ k ≤ bs.length ∧ n = bs.length - k ∧ n ≤ c ∧ Sl wr A n (bs.drop k) ∧ (0 < n → ∀ p, A = some p → w.heap.size ≤ p.block ∧ p.block < B) ∧ EachLink bs k i ∧ J B i wr ∧ B ≤ wr.heap.size

theorem Own.atb {w : World} {base n c k : Nat} {A : Option Addr} {bs : List UInt8} (h : Own w base A n c bs) (hk : ∃ p, A = some p ∧ p.block = k) : base ≤ k ∧ k < w.heap.size := by
  obtain ⟨p, rfl, rfl⟩ := hk
  rcases h.2.2.2 with ⟨q, _⟩ | ⟨g, cap, cur, hv, hb, hg, _⟩
  · cases q
  · injection hv with e1
    injection e1 with e1
    subst e1
    exact ⟨hb, (Array.getElem?_eq_some_iff.1 hg).1⟩
theorem wrap_k {k d : Nat} (h : k + d ≤ 2000) : wrap64 ((k : Int) + (d : Int)) = ((k + d : Nat) : Int) := by
  rw [IntWalk.wrap64_in _ (by omega)]; simp

/-- A call of this function enters it. -/
def Enters (f : FuncId) : Prop := ∀ (args : Array Value) (w : World), (callFunc f args).run Try.prog w = .ok (.enter f args) w
theorem enters {f : FuncId} {fn : Func} {c : Code} (hf : Try.prog.funcs[f]? = some fn) (hn : (fn.name == "runtime.NumGoroutine") = false) (hb : fn.body = some c) : Enters f := by
  intro args w
  have h1 : ¬ fn.name = "runtime.NumGoroutine" := by simpa using hn
  simp [callFunc, hf, h1, hb]

set_option maxHeartbeats 8000000 in
set_option maxRecDepth 8000 in
theorem pl_each {w : World} {l : Nat} {x : MB} {s : MS} (h : LG w l x s) (K : FuncId) (cap : Array Value) (hK : Enters K) (J : Nat → Nat → World → Prop)
    (h0 : ∀ u, Grow w u → J u.heap.size 0 u) (hg : ∀ B i u u', J B i u → Grow u u' → J B i u')
    (hs : ∀ B i u0 u v L, J B i u0 → Grow u0 u → w.heap.size ≤ B → B ≤ u0.heap.size → (lgL s.S)[i]? = some L → OP u u0.heap.size v L →
      Calls Try.prog K (#[v] ++ cap) u fun e u' => e = .returned (.tuple #[]) ∧ J B (i + 1) u' ∧ Turn (fun k => k < w.heap.size ∨ B ≤ k) u u') :
    Calls Try.prog 45 #[.pointer (some ⟨l, 0, none⟩), .func (.func K) #[] cap] w fun e w' => e = .returned (.int .i64 (lgU s.S : Nat)) ∧ ∃ B, w.heap.size ≤ B ∧ B ≤ w'.heap.size ∧ J B (lgL s.S).length w' := by
  unfold Enters at hK
  obtain ⟨hP, hl, hlx⟩ := id h
  have c0 := hl.c3.1
  have c1 := hl.c3.2.1
  have HLG := Lib.hid h
  have HL := Lib.hid hl
  have HP := Lib.hid hP
  have HSL := Lib.hid hP.lenS
  have HLE := Lib.hid (lgE_le s.S)
  have HBL := Lib.hid (lgB_length (S := s.S) hP.lenS)
  obtain ⟨n0, hn0⟩ : ∃ n0, n0 = lgE s.S := ⟨_, rfl⟩
  rw [← hn0] at HLE HBL
  have HN0 := Lib.hid hn0
  have hn504 := HLE.out
  clear h hl hP hlx hn0
  go_enter Try.func45, Try.ntmps45
  go_wp2_with fail
  go_region_held3 (fun w' => w'.cell? ⟨l, 0, none⟩ = some (.pointer (some ⟨x.p, 0, none⟩)) ∧ w'.cell? ⟨l, 1, none⟩ = some (.int .i64 512)) (first | exact ⟨c0, c1⟩ | exact ⟨d0, d1⟩ | exact ⟨f0, f1⟩) ((first
    | (go_at_call 65; refine (pl_end (HLG.out.keep ?_)).mono ?_; (repeat (first | exact Grow.refl _ | refine Grow.drew ?_ | refine Grow.drewN ?_ _)); rintro e w3 ⟨rfl, g3⟩; rw [← HN0.out]; have G3 : Grow w w3 := Grow.trans (by (repeat (first | exact Grow.refl _ | refine Grow.drew ?_ | refine Grow.drewN ?_ _))) g3; have d0 := G3.cell c0; have d1 := G3.cell c1)
    | (go_at_call 14; refine (pm_load (HP.out.keep (G3.trans ?_)) 520 n0 (by omega)).mono ?_; (repeat (first | exact Grow.refl _ | refine Grow.drew ?_ | refine Grow.drewN ?_ _)); rintro e w4 ⟨A4, c4, rfl, o4, g4⟩; have G4 : Grow w w4 := (G3.trans (by (repeat (first | exact Grow.refl _ | refine Grow.drew ?_ | refine Grow.drewN ?_ _)))).trans g4; have f0 := G4.cell c0; have f1 := G4.cell c1)))
  all_goals
    have HG4 := Lib.hid G4
    obtain ⟨B, hB⟩ : ∃ B, B = w4.heap.size := ⟨_, rfl⟩
    obtain ⟨bs, hbs⟩ : ∃ bs, bs = lgB s.S := ⟨_, rfl⟩
    have hbe : (s.S.drop 520).take n0 = bs := by rw [hbs, lgB, ← HN0.out]
    have HBS := Lib.hid hbs
    have HI : EachInv w w4 bs B J (.slice A4 n0 c4) (.int .i64 0) := by
      refine ⟨0, 0, n0, c4, A4, rfl, rfl, Nat.zero_le _, by rw [hbs, HBL.out]; rfl, o4.cap, ?_, fun h0 p hp => ?_, EachLink.start _, by rw [hB]; exact h0 _ G4, by omega⟩
      · have := o4.sl
        rw [hbe] at this
        exact this
      · obtain ⟨q1, q2⟩ := (o4.atb ⟨p, hp, rfl⟩)
        have q3 := G3.size
        have q4 : ∀ u : World, u.drew.heap.size = u.heap.size := fun _ => rfl
        have q5 : ∀ (u : World) k, (u.drewN k).heap.size = u.heap.size := fun u k => rfl
        exact ⟨by omega, by omega⟩
    have HI0 := Lib.hid HI
    have HBW := Lib.hid (show w.heap.size ≤ B by rw [hB]; exact G4.size)
    have HLB := Lib.hid (show bs.length = n0 by rw [hbs]; exact HBL.out)
    clear HI hbe hbs hB G3 g3 G4 g4 o4 c0 c1 d0 d1 f0 f1
    go_wp2_with fail
    go_loopw [5, 7] (fun tb tu wr => EachInv w wr bs B J tb tu) (fun tb _ _ => lenV tb)
    case atStart => exact HI0.out
    case round =>
      obtain ⟨k, i, n, c, A, rfl, rfl, hk, hn, hc, hsl, hA, hlk, hJ, hBZ⟩ := hrel
      have HSL2 := Lib.hid hsl
      have HA := Lib.hid hA
      have HLK := Lib.hid hlk
      have HJ := Lib.hid hJ
      have HBZ := Lib.hid hBZ
      have HN := Lib.hid hn
      have hk504 : k ≤ 504 := by have := HLB.out; omega
      have hnk : n + k ≤ 504 := by have := HLB.out; omega
      clear hk hn hsl hA hlk hJ hBZ HI0
      by_cases hpos : 0 < n
      · have z1 : decide (0 < n) = true := decide_eq_true hpos
        have z2 : decide ((0 : Int) < (n : Int)) = true := decide_eq_true (by omega)
        go_wp2_with fail
        refine (pl_decode HSL2.out hc).mono ?_
        rintro e w5 ⟨v, rfl, hop, g5⟩
        obtain ⟨E, hE⟩ : ∃ E, E = dpE (bs.drop k) := ⟨_, rfl⟩
        obtain ⟨D, hD⟩ : ∃ D, D = dpU (bs.drop k) := ⟨_, rfl⟩
        rw [← hE, ← hD]
        have HE := Lib.hid hE
        have HD := Lib.hid hD
        have HG5 := Lib.hid g5
        have HOP := Lib.hid hop
        clear hE hD g5 hop
        by_cases h0 : E = 0
        · have h0' : (E != 0) = false := by rw [bne_eq_false_iff_eq]; exact h0
          have hdz : dpE (bs.drop k) = 0 := by rw [← HE.out]; exact h0
          have hst := HLK.out.step hdz
          have hup := dpU_pos hdz
          rw [← HD.out] at hst hup
          have HST := Lib.hid hst.1
          have HNTH := Lib.hid hst.2
          have hD1 : 8 ≤ D := hup.1
          have hD2 : D ≤ n := by have := hup.2.1; rw [List.length_drop] at this; have := HN.out; omega
          have HSW := Lib.hid (HSL2.out.keep HG5.out)
          clear hst hup hdz h0
          go_wp2_with fail
          refine (hs B i wr w5 v _ HJ.out HG5.out HBW.out HBZ.out (by rw [lgL, ← HBS.out]; exact HNTH.out) HOP.out).mono ?_
          rintro e w6 ⟨rfl, hJ6, t6⟩
          have HJ6 := Lib.hid hJ6
          have HS6 := Lib.hid (HSW.out.turn' t6 fun h0 p hp q => by have := HA.out h0 p hp; omega)
          have HB6 := Lib.hid (show B ≤ w6.heap.size from Nat.le_trans HBZ.out (Nat.le_trans HG5.out.size t6.size))
          have e5 := wrap_k (k := k) (d := D) (by omega)
          have i1 : D ≤ c := by omega
          have hsd := HS6.out.drop (k := D) (c := c) hD2 hc
          rw [List.drop_drop] at hsd
          have HMS := Lib.hid (show lenV (.slice none (n - D) 0) < lenV (.slice none n 0) by simp only [lenV]; omega)
          clear hJ6 t6
          by_cases hca : c = D
          · rw [if_pos hca] at hsd
            obtain rfl : n = D := by omega
            subst hca
            have X : EachInv w w6 bs B J (.slice A 0 0) (.int .i64 ((k + c : Nat) : Int)) :=
              ⟨k + c, i + 1, 0, 0, A, rfl, rfl, by have := HLB.out; have := HN.out; omega, by have := HN.out; have := HLB.out; omega, by omega, by simpa using hsd, fun q => by omega, HST.out, HJ6.out, HB6.out⟩
            have HX := Lib.hid X
            clear X hsd
            go_wp2_with fail
            go_roundw
            case rel => (try rw [e5]); first | exact HX.out | ((repeat apply Exists.intro); exact HX.out) | ((repeat apply Exists.intro); refine ⟨HX.out, ?_⟩; rfl)
            case measure => simp [lenV]; omega
          · rw [if_neg hca] at hsd
            obtain ⟨g, o, rfl, -, -⟩ := HSL2.out.all (by omega)
            rw [show (some (⟨g, o, none⟩ : Addr)).map (·.add D) = some ⟨g, o + D, none⟩ by simp [Addr.add_lit]] at hsd
            have X : EachInv w w6 bs B J (.slice (some ⟨g, o + D, none⟩) (n - D) (c - D)) (.int .i64 ((k + D : Nat) : Int)) :=
              ⟨k + D, i + 1, n - D, c - D, _, rfl, rfl, by have := HLB.out; have := HN.out; omega, by have := HN.out; omega, by omega, hsd, fun q p hp => by injection hp with hp; subst hp; exact HA.out (by omega) ⟨g, o, none⟩ rfl, HST.out, HJ6.out, HB6.out⟩
            have HX := Lib.hid X
            clear X hsd
            go_wp2_with fail
            go_roundw
            case rel => (try rw [e5]); first | exact HX.out | ((repeat apply Exists.intro); exact HX.out) | ((repeat apply Exists.intro); refine ⟨HX.out, ?_⟩; rfl)
            case measure => simp only [lenV]; omega
        · have h0' : (E != 0) = true := by rw [bne_iff_ne]; exact h0
          have hdn := HLK.out.done (by rw [← HE.out]; exact h0)
          have HDN := Lib.hid hdn
          clear hdn h0
          go_wp2_with fail
          go_ret
          exact ⟨ret_int (by rw [lgU, ← HBS.out, HDN.out.1]), B, HBW.out, Nat.le_trans HBZ.out HG5.out.size, by rw [lgL, ← HBS.out, HDN.out.2]; exact hg _ _ _ _ HJ.out HG5.out⟩
      · obtain rfl : n = 0 := by omega
        have hdn := HLK.out.done (by rw [List.length_eq_zero_iff.1 (show (bs.drop k).length = 0 by rw [List.length_drop]; have := HN.out; omega), dpE_nil]; simp)
        have HDN := Lib.hid hdn
        clear hdn hpos
        go_wp2_with fail
        go_ret
        exact ⟨ret_int (by rw [lgU, ← HBS.out, HDN.out.1]), B, HBW.out, HBZ.out, by rw [lgL, ← HBS.out, HDN.out.2]; exact HJ.out⟩
end Go.Proofs.Ytlinlmimakealaa

namespace Go.Proofs.Ytlinlmimakealaa
open Go.RowKit

theorem Own.out {w : World} {base n c : Nat} {A : Option Addr} {bs : List UInt8} {F : Nat → Prop} (h : Own w base A n c bs) (hF : ∀ k, F k → k < base) : 0 < n → ∀ p, A = some p → ¬ F p.block := by
  intro h0 p hp q
  obtain ⟨g, e, h1, h2⟩ := h.row h0
  rw [e] at hp
  injection hp with hp
  subst hp
  have q' : F g := q
  have := hF g q'
  omega

def zero8 : List UInt8 := List.replicate 8 0
def zc8 : Array Value := (bvs zero8).toArray
theorem make8 (w : World) : (Instr.makeSlice 22 (.int .i64 8) (.int .i64 8)).run Try.prog w = .ok (.slice (some ⟨w.heap.size, 0, none⟩) 8 8) (w.alloc (.cells zc8 5)) := by kernel_rfl
theorem Sl.at8 (w : World) (g : Nat) (t : TypeId) (hg : g = w.heap.size) : Sl (w.alloc (.cells zc8 t)) (some ⟨g, 0, none⟩) 8 (List.replicate 8 0) := by
  subst hg
  exact Sl.lit w t zc8 zero8 8 (by simp [zero8]) rfl (by omega)
theorem pl_wipe_at {w wz : World} {l : Nat} {x : MB} {s : MS} (h : LG w l x s) (g : Grow w wz) (k c : Nat) (hk : w.heap.size ≤ k) (hs : Sl wz (some ⟨k, 0, none⟩) 8 (List.replicate 8 0)) :
    Calls Try.prog 63 #[.pointer (some ⟨l, 0, none⟩), .int .i64 512, .slice (some ⟨k, 0, none⟩) 8 c] wz fun e w' => e = .returned (.tuple #[]) ∧ LG w' l x s.wipe ∧ Turn x.F w w' := by
  refine (pl_keep (h.keep g) hs (fun _ p hp q => ?_) 512).mono ?_
  · injection hp with hp
    subst hp
    have q' : x.F k := q
    have := h.1.lt k q'
    omega
  rintro e w' ⟨rfl, h5, t5⟩
  exact ⟨rfl, h5, (Turn.grow g _).and t5⟩

set_option maxHeartbeats 2000000 in
set_option maxRecDepth 4000 in
theorem pl_clear {w : World} {l : Nat} {x : MB} {s : MS} (h : LG w l x s) :
    Calls Try.prog 47 #[.pointer (some ⟨l, 0, none⟩)] w fun e w' => e = .returned (.tuple #[]) ∧ LG w' l x s.wipe ∧ Turn x.F w w' := by
  have H := Lib.hid h
  have c1 := h.2.1.c3.2.1
  have c2 : (w.alloc (.cells zc8 5)).cell? ⟨l, 1, none⟩ = some (.int .i64 512) := cell_alloc c1
  have c3 : (w.drew.alloc (.cells zc8 5)).cell? ⟨l, 1, none⟩ = some (.int .i64 512) := cell_alloc c1
  have hmk := make8
  clear h
  go_enter Try.func47, Try.ntmps47
  go_wp2_with fail
  go_region_with (go_at_call 63; refine (pl_wipe_at H.out ?_ _ _ ?_ ?_).mono ?_; (repeat (first | exact Grow.refl _ | refine Grow.drew ?_ | refine Grow.drewN ?_ _ | refine Grow.alloc ?_ _)); (first | exact Nat.le_refl _ | simp); ((repeat (refine Sl.drew ?_)); exact Sl.at8 _ _ _ rfl); rintro e w6 ⟨rfl, h6, t6⟩)
  all_goals
    have H6 := Lib.hid h6
    have HT6 := Lib.hid t6
    clear h6 t6
    go_wp2_with fail
    go_end0
    exact ⟨rfl, H6.out, HT6.out⟩

theorem fits_small8 {k : Int} (h0 : 0 ≤ k) (h1 : k ≤ 2000000000) : fitsB k 8 = true := by have := h1; simp [fitsB]; omega
theorem put_end {w : World} (U m : Nat) (h : U + m ≤ 2000) : Calls Try.prog 32 #[.slice none 0 0, .int .i64 ((U : Int) + (m : Int)), .int .i64 8] w fun e w' => ∃ A' c', e = .returned (.slice A' 8 c') ∧ Own w' w.heap.size A' 8 c' (leB (U + m) 8) ∧ Grow w w' := by
  refine (put_s (n := 0) (bs := []) 8 Sl.nil (fits_small8 (by omega) (by omega)) (by omega) rfl (by omega)).mono ?_
  rintro e w' ⟨A', c', rfl, o, g⟩
  rw [List.nil_append, show ((U : Int) + (m : Int)).toNat = U + m by omega] at o
  exact ⟨A', c', rfl, o, g⟩

set_option maxHeartbeats 4000000 in
set_option maxRecDepth 8000 in
theorem pl_append {w : World} {l : Nat} {x : MB} {s : MS} (h : LG w l x s) {A : Option Addr} {n c : Nat} {L : List PT} (hr : RP w A n L) (hw : ∀ p ∈ L, p.wide) :
    Calls Try.prog 37 #[.pointer (some ⟨l, 0, none⟩), .slice A n c] w fun e w' => e = .returned (.int .i64 (apE s.S L)) ∧ LG w' l x (s.append L) ∧ Turn x.F w w' := by
  have H := Lib.hid h
  have HR := Lib.hid hr
  have HW := Lib.hid hw
  have HLT := Lib.hid h.1.lt
  clear h hr hw
  go_enter Try.func37, Try.ntmps37
  go_wp2_with fail
  refine (pl_encode HR.out HW.out).mono ?_
  rintro e w1 (⟨hm, A1, c1, rfl, o1, g1⟩ | ⟨hm, rfl, g1⟩)
  · obtain ⟨bs, hbs⟩ : ∃ bs, bs = encP L := ⟨_, rfl⟩
    obtain ⟨m, hmm⟩ : ∃ m, m = bs.length := ⟨_, rfl⟩
    have hm8 := encP_mod L
    have hml := encP_le hm
    rw [← hbs, ← hmm] at o1 hm8 hml
    have m1 := hm8.2
    obtain ⟨U, hU⟩ : ∃ U, U = lgU s.S := ⟨_, rfl⟩
    have hU5 : U ≤ 504 := by rw [hU]; exact lgU_le
    have HM := Lib.hid hm
    have HO := Lib.hid o1
    have HG := Lib.hid g1
    have HBS := Lib.hid hbs
    have HMM := Lib.hid hmm
    have HUU := Lib.hid hU
    have H1 := Lib.hid (H.out.keep g1)
    rw [← hbs, ← hmm]
    clear hm o1 g1 hm8 hmm hbs hU
    go_wp2_with fail
    refine (pl_each H1.out 62 #[] (enters Try.func62 (by kernel_rfl) rfl) (fun _ _ u => Grow w1 u) (fun u g => g) (fun _ _ _ _ h g => h.trans g) ?_).mono ?_
    · intro B i u0 u v Lr hJ g _ _ _ _
      have HJ := Lib.hid (hJ.trans g)
      clear hJ g
      go_enter Try.func62, Try.ntmps62
      go_wp2_with fail
      go_end0
      exact ⟨rfl, HJ.out, Turn.refl _ _⟩
    rintro e w2 ⟨rfl, B, -, -, g2⟩
    rw [← HUU.out]
    have H2 := Lib.hid (H1.out.keep g2)
    have HG2 := Lib.hid (HG.out.trans g2)
    have HO2 := Lib.hid (show Own w2 w.heap.size A1 m c1 bs from ⟨HO.out.1, HO.out.2.1, World.ownsRow.kept HO.out.2.2 g2.grown (own_none _)⟩)
    have c1 := H2.out.2.1.c3.2.1
    have c2 := H2.out.2.1.c3.2.2
    clear g2
    by_cases hf : 504 < U + m
    · have z1 : decide ((504 : Int) < (U : Int) + (m : Int)) = true := decide_eq_true (by omega)
      have z2 : decide (504 < U + m) = true := decide_eq_true hf
      have HE := Lib.hid (show apE s.S L = 5 by rw [apE, if_pos HM.out, ← HUU.out, ← HBS.out, ← HMM.out, if_pos hf])
      clear hf
      go_wp2_with fail
      go_ret
      exact ⟨ret_int (by rw [HE.out]), by rw [MS.append, if_neg (by rw [HE.out]; simp)]; exact H2.out, Turn.grow HG2.out _⟩
    · have z1 : decide ((504 : Int) < (U : Int) + (m : Int)) = false := decide_eq_false (by omega)
      have z2 : decide (504 < U + m) = false := decide_eq_false hf
      have hUm : U + m ≤ 504 := by omega
      have HE := Lib.hid (show apE s.S L = 0 by rw [apE, if_pos HM.out, ← HUU.out, ← HBS.out, ← HMM.out, if_neg hf])
      clear hf
      go_wp2_with fail
      refine (pl_keep H2.out HO2.out.sl (HO2.out.out HLT.out) _).mono ?_
      rintro e w3 ⟨rfl, h3, t3⟩
      have H3 := Lib.hid h3
      have HT3 := Lib.hid ((Turn.grow HG2.out x.F).and t3)
      have d1 := h3.2.1.c3.2.1
      have d2 := h3.2.1.c3.2.2
      clear h3 t3 c1 c2
      go_wp2_with fail
      have HA : ∀ w4 A4 c4, Own w4 w3.heap.size A4 8 c4 (leB (U + m) 8) → Grow w3 w4 → ∀ w5, Grow w4 w5 → Calls Try.prog 63 #[.pointer (some ⟨l, 0, none⟩), .int .i64 512, .slice A4 8 c4] w5 fun e w' => e = .returned (.tuple #[]) ∧ LG w' l x (s.append L) ∧ Turn x.F w w' := by
        intro w4 A4 c4 o4 g4 w5 g5
        have hx : ∀ k, x.F k → k < w3.heap.size := H3.out.1.lt
        refine (pl_keep (H3.out.keep (g4.trans g5)) (o4.sl.keep g5) (o4.out hx) 512).mono ?_
        rintro e w' ⟨rfl, h5, t5⟩
        refine ⟨rfl, ?_, (HT3.out.and (Turn.grow (g4.trans g5) _)).and t5⟩
        rw [MS.append, if_pos HE.out, ← HUU.out, ← HBS.out, ← HMM.out]
        exact h5
      have HAA := Lib.hid HA
      have y1 : IntKind.i64.wrap ((U : Int) + (m : Int)) = (U : Int) + (m : Int) := IntWalk.i64_in _ (by omega)
      clear HA
      go_region_held3 (fun w' => w'.cell? ⟨l, 1, none⟩ = some (.int .i64 512)) (first | exact d1 | exact f1 | exact g1) ((first
        | (go_at_call 32; go_loud (refine (put_end U m (by omega)).mono ?_; rintro e w4 ⟨A4, c4, rfl, o4, g4⟩; have G4 : Grow w3 w4 := Grow.trans (by (repeat (first | exact Grow.refl _ | refine Grow.drew ?_ | refine Grow.drewN ?_ _))) g4; have o4' := o4.low (B := w3.heap.size) (Nat.le_refl _); have f1 := G4.cell d1))
        | (go_at_call 63; refine (HAA.out w4 A4 c4 o4' G4 _ ?_).mono ?_; (repeat (first | exact Grow.refl _ | refine Grow.drew ?_ | refine Grow.drewN ?_ _)); rintro e w6 ⟨rfl, h6, t6⟩; have g1 := h6.2.1.c3.2.1)))
      all_goals
        clear g1
        have H6 := Lib.hid h6
        have HT6 := Lib.hid t6
        clear h6 t6
        go_wp2_with fail
        go_ret
        exact ⟨ret_int (by rw [HE.out]), H6.out, HT6.out⟩
  · have HE := Lib.hid (show apE s.S L = 1 by rw [apE, hm]; rfl)
    have HG := Lib.hid g1
    clear hm g1
    go_wp2_with fail
    go_ret
    exact ⟨ret_int (by rw [HE.out]), by rw [MS.append, if_neg (by rw [HE.out]; simp)]; exact H.out.keep HG.out, Turn.grow HG.out _⟩
end Go.Proofs.Ytlinlmimakealaa

namespace Go.Proofs.Ytlinlmimakealaa
open Go.RowKit

theorem OW.len {w : World} {base : Nat} {v : Value} {R : List RW} (h : OW w base v R) : ∃ A c, v = .slice A R.length c ∧ R.length ≤ c := by
  rcases h.1.2 with ⟨q1, q2⟩ | ⟨g, c, cur, hv, hb, hg, h3, h4⟩
  · exact ⟨none, 0, by rw [q1, q2], by omega⟩
  · exact ⟨_, c, hv, h3⟩

def RecJ (w : World) (s : MS) (B i : Nat) (u : World) : Prop := ∃ (v : Value) (R : List RW), Row u w.heap.size [v] ∧ OW u B v R ∧ R.map RW.L = (lgL s.S).take i ∧ R.length = i ∧ Grow w u
theorem recs_few (s : MS) (h : s.S.length = 1024) : (lgL s.S).length ≤ 63 := by
  have h1 := rcL_len _ (lgB s.S) (Nat.le_refl _)
  have h2 := lgE_le s.S
  rw [lgB_length h] at h1
  unfold lgL
  omega

end Go.Proofs.Ytlinlmimakealaa

namespace Go.Proofs.Ytlinlmimakealaa
open Go.RowKit

/-- The bytes of a text, in a new block. -/
theorem bytes_of (w : World) (s : ByteArray) (hs : s.size ≤ 1073741000) : Sl (Lib.bytesWorld w 5 s) (some ⟨w.heap.size, 0, none⟩) s.size s.data.toList ∧ Grow w (Lib.bytesWorld w 5 s) := by
  have hL : s.data.toList.length = s.size := (Lib.size_eq s).symm
  have hb := Lib.bytesWorld_below w 5 s
  have hsz : w.heap.size < (Lib.bytesWorld w 5 s).heap.size := by simp [Lib.bytesWorld, World.freeze]
  refine ⟨⟨hL, hs, by simp [bvs, hL], fun _ => ⟨_, _, rfl, hsz, fun j u hu => ?_⟩⟩, hb⟩
  have hj : j < s.data.toList.length := by have := (List.getElem?_eq_some_iff.1 hu).1; simpa [bvs] using this
  have h6 := Lib.bytesWorld_cell w 5 s j (by omega)
  rw [Nat.zero_add, h6, ← hu]
  simp [bvs, bv, List.getD, List.getElem?_eq_getElem hj]

def RedoInv (w wr : World) (l : Nat) (x : MB) (s : MS) (L : List PT) (t : Value) : Prop := ∃ k : Nat, t = .int .i64 (k : Int) ∧ k ≤ L.length ∧ LG wr l x (s.patches (L.take k)) ∧ Turn x.F w wr

theorem patches_step {s : MS} {L : List PT} {k : Nat} {r : PT} (h : L[k]? = some r) : s.patches (L.take (k + 1)) = (s.patches (L.take k)).patch r := by
  rw [List.take_add_one, h]
  simp [MS.patches, List.foldl_append]

section
variable {w w' : World} {lb l p bx : Nat} {r : PT} {F : Nat → Prop}
theorem redo4_grow (g : Grow w w') (h : w.cell? ⟨lb, 0, none⟩ = some (.pointer (some ⟨l, 0, none⟩)) ∧ w.cell? ⟨l, 0, none⟩ = some (.pointer (some ⟨p, 0, none⟩)) ∧ w.cell? ⟨bx, 0, none⟩ = some (.int .i64 r.pos) ∧ w.cell? ⟨bx, 1, none⟩ = some (.string r.dat)) :
    w'.cell? ⟨lb, 0, none⟩ = some (.pointer (some ⟨l, 0, none⟩)) ∧ w'.cell? ⟨l, 0, none⟩ = some (.pointer (some ⟨p, 0, none⟩)) ∧ w'.cell? ⟨bx, 0, none⟩ = some (.int .i64 r.pos) ∧ w'.cell? ⟨bx, 1, none⟩ = some (.string r.dat) :=
  ⟨g.cell h.1, g.cell h.2.1, g.cell h.2.2.1, g.cell h.2.2.2⟩
theorem Turn.cell' (t : Turn F w w') {q : Addr} {v : Value} (hc : w.cell? q = some v) (hn : ¬ F q.block) : w'.cell? q = some v := (t.cell (World.block_lt_of_cell? w q hc) hn).trans hc
theorem redo4_turn (t : Turn F w w') (h1 : ¬ F lb) (h2 : ¬ F l) (h3 : ¬ F bx) (h : w.cell? ⟨lb, 0, none⟩ = some (.pointer (some ⟨l, 0, none⟩)) ∧ w.cell? ⟨l, 0, none⟩ = some (.pointer (some ⟨p, 0, none⟩)) ∧ w.cell? ⟨bx, 0, none⟩ = some (.int .i64 r.pos) ∧ w.cell? ⟨bx, 1, none⟩ = some (.string r.dat)) :
    w'.cell? ⟨lb, 0, none⟩ = some (.pointer (some ⟨l, 0, none⟩)) ∧ w'.cell? ⟨l, 0, none⟩ = some (.pointer (some ⟨p, 0, none⟩)) ∧ w'.cell? ⟨bx, 0, none⟩ = some (.int .i64 r.pos) ∧ w'.cell? ⟨bx, 1, none⟩ = some (.string r.dat) :=
  ⟨t.cell' h.1 h1, t.cell' h.2.1 h2, t.cell' h.2.2.1 h3, t.cell' h.2.2.2 h3⟩
end
theorem bytesGrow (w : World) (s : ByteArray) : Grow w (Lib.bytesWorld w 5 s) := Lib.bytesWorld_below w 5 s

theorem pl_store_ok {w wz : World} {l : Nat} {x : MB} {s : MS} (h : LG w l x s) (r : PT) (hin : inW 1024 r.pos r.dat.size = true) (g : Grow w wz) (k c : Nat) (hk : w.heap.size ≤ k) (hs : Sl wz (some ⟨k, 0, none⟩) r.dat.size r.txt) :
    Calls Try.prog 17 #[.pointer (some ⟨x.p, 0, none⟩), .int .i64 r.pos, .slice (some ⟨k, 0, none⟩) r.dat.size c] wz fun e w' => e = .returned (.int .i64 0) ∧ LG w' l x (s.store r.pos r.txt) ∧ Turn x.F wz w' ∧ Turn x.F w w' := by
  refine (pm_storeU (h.1.keep g) hs (fun _ p hp q => ?_) r.pos).mono ?_
  · injection hp with hp
    subst hp
    have q' : x.F k := q
    have := h.1.lt k q'
    omega
  rintro e w' ⟨rfl, h5, t5⟩
  rw [show inW (8 * 128) r.pos r.dat.size = true from hin]
  have hl : r.txt.length = r.dat.size := hs.1
  refine ⟨rfl, ⟨?_, (h.2.1.keep g).turn t5 h.2.2, h.2.2⟩, t5, (Turn.grow g _).and t5⟩
  simp only [MS.store]
  rw [hl]
  exact h5
theorem store_no {s : MS} {r : PT} (hin : inW 1024 r.pos r.dat.size = false) : s.store r.pos r.txt = s := by
  unfold MS.store storeS storeA
  rw [PT.txt_length, show inW (8 * 128) r.pos r.dat.size = false from hin]
  rfl
theorem pl_store_no {w wz : World} {l : Nat} {x : MB} {s : MS} (h : LG w l x s) (r : PT) (hin : inW 1024 r.pos r.dat.size = false) (g : Grow w wz) (k c : Nat) (hk : w.heap.size ≤ k) (hs : Sl wz (some ⟨k, 0, none⟩) r.dat.size r.txt) :
    Calls Try.prog 17 #[.pointer (some ⟨x.p, 0, none⟩), .int .i64 r.pos, .slice (some ⟨k, 0, none⟩) r.dat.size c] wz fun e w' => e = .returned (.int .i64 1) ∧ LG w' l x s ∧ Turn x.F wz w' ∧ Turn x.F w w' := by
  refine (pm_storeU (h.1.keep g) hs (fun _ p hp q => ?_) r.pos).mono ?_
  · injection hp with hp
    subst hp
    have q' : x.F k := q
    have := h.1.lt k q'
    omega
  rintro e w' ⟨rfl, h5, t5⟩
  rw [show inW (8 * 128) r.pos r.dat.size = false from hin]
  have hl : r.txt.length = r.dat.size := hs.1
  refine ⟨rfl, ⟨?_, (h.2.1.keep g).turn t5 h.2.2, h.2.2⟩, t5, (Turn.grow g _).and t5⟩
  have e := store_no (s := s) hin
  rw [← e]
  simp only [MS.store]
  rw [hl]
  exact h5
theorem pl_flush_at {w wz : World} {l : Nat} {x : MB} {s : MS} (h : LG w l x s) (r : PT) (hr : r.dat.size ≤ 1000) (g : Grow w wz) :
    Calls Try.prog 18 #[.pointer (some ⟨x.p, 0, none⟩), .int .i64 r.pos, .int .i64 (r.dat.size : Nat)] wz fun e w' => ∃ er, e = .returned (.int .i64 er) ∧ LG w' l x (s.flush r.pos r.dat.size) ∧ Turn x.F wz w' ∧ Turn x.F w w' := by
  refine (pm_flushU (h.1.keep g) r.pos (r.dat.size : Nat) (by omega) (by omega)).mono ?_
  rintro e w' ⟨rfl, h5, t5⟩
  exact ⟨_, rfl, ⟨h5, (h.2.1.keep g).turn t5 h.2.2, h.2.2⟩, t5, (Turn.grow g _).and t5⟩

set_option maxHeartbeats 8000000 in
set_option maxRecDepth 8000 in
theorem pl_redo1 {w : World} {l mb lb i : Nat} {x : MB} {s : MS} (h : LG w l x s) (hm : Row w mb [.int .i64 (i : Int)]) (hb : Blk w lb [.pointer (some ⟨l, 0, none⟩)]) (hmF : ¬ x.F mb) (hbF : ¬ x.F lb) (hne : mb ≠ lb) (hml : mb ≠ l) (hi : i ≤ 1000)
    {b0 : Nat} {u : Value} {L : List PT} (hu : OP w b0 u L) (hb0 : ∀ k, x.F k → k < b0) (hmb : mb < b0) (hL : L.length ≤ 1000) (hw : ∀ p ∈ L, p.dat.size ≤ 1000) :
    Calls Try.prog 46 #[u, .pointer (some ⟨mb, 0, none⟩), .pointer (some ⟨lb, 0, none⟩)] w fun e w' => e = .returned (.tuple #[]) ∧ Row w' mb [.int .i64 ((i : Int) + 1)] ∧ LG w' l x (s.patches L) ∧ Turn (fun k => k = mb ∨ x.F k) w w' := by
  have c0 := hm.1.c1
  have f0 := hm.2 0 (by simp)
  obtain ⟨A, c, rfl, hc, -⟩ := hu.rp (by omega)
  obtain ⟨w1, hw1⟩ : ∃ w1, w1 = w.setCell ⟨mb, 0, none⟩ (.int .i64 ((i : Int) + 1)) := ⟨_, rfl⟩
  have t1 : Turn (fun k => k = mb) w w1 := by rw [hw1]; exact Turn.setCell (F := fun k => k = mb) _ (p := ⟨mb, 0, none⟩) rfl _
  have H1 := Lib.hid (show LG w1 l x s from h.turn t1 (fun k hk q => hmF (hk ▸ q)) (fun q => hml q.symm))
  have M1 := Lib.hid (show Row w1 mb [.int .i64 ((i : Int) + 1)] by rw [hw1]; simpa using hm.set (j := 0) (v := .int .i64 ((i : Int) + 1)) (by simp))
  have B1 := Lib.hid (show Blk w1 lb [.pointer (some ⟨l, 0, none⟩)] from hb.turn t1 (fun q => hne q.symm))
  have O1 := Lib.hid (show OP w1 b0 (.slice A L.length c) L from hu.turn t1 (fun g hg q => by have := (World.ownsRow.lt hu g hg).1; omega))
  have HT1 := Lib.hid t1
  have HW1 := Lib.hid hw1
  have HRP := Lib.hid (show RP w1 A L.length L by obtain ⟨A', c', e, -, q⟩ := O1.out.rp (by omega); injection e with e1 e2 e3; subst e1; exact q)
  have HAF := Lib.hid (show 0 < L.length → ∀ p, A = some p → ¬ x.F p.block from fun h0 p hp q => by
    have q1 := own_none (.slice A L.length c)
    have q2 := hb0 _ q
    have q3 := (World.ownsRow.lt O1.out p.block (by rw [hp]; rfl)).1
    omega)
  have HB0 := Lib.hid hb0
  have HWW := Lib.hid hw
  obtain ⟨n, hn⟩ : ∃ n, n = L.length := ⟨_, rfl⟩
  rw [← hn] at O1 HRP HAF
  have HN := Lib.hid hn
  rw [← hn] at hL ⊢
  clear h hm hb hu t1 hw1 hb0 hw hc hn
  go_enter Try.func46, Try.ntmps46
  go_wp2_with fail
  rw [← HW1.out]
  clear c0 f0
  go_loopw [10] (fun t wr => RedoInv w1 wr l x s L t) (fun t _ => n - (intOf t).toNat)
  case atStart => exact ⟨0, by simp, Nat.zero_le _, H1.out, Turn.refl _ _⟩
  case round =>
    obtain ⟨k, rfl, hk, hlg, ht⟩ := hrel
    have HLG := Lib.hid hlg
    have HT := Lib.hid ht
    have hk' : k ≤ n := by rw [HN.out]; exact hk
    clear hlg ht hk
    by_cases hlt : k < n
    · have R1 : RP wr A n L := RP.turn HRP.out HT.out HAF.out
      obtain ⟨b, o, r, hrk, rfl, hb, d0, d1⟩ := R1.at_ hlt
      have hrm : r.dat.size ≤ 1000 := HWW.out r (List.mem_of_getElem? hrk)
      have HRK := Lib.hid (patches_step (s := s) hrk)
      have bl := (B1.out.turn HT.out hbF).c1
      have cl := HLG.out.2.1.c3.1
      obtain ⟨s1, hs1⟩ : ∃ s1, s1 = s.patches (L.take k) := ⟨_, rfl⟩
      rw [← hs1] at HLG HRK
      have HS1 := Lib.hid hs1
      clear hrk R1 hs1
      cases hin : inW 1024 r.pos r.dat.size with
      | true =>
        have HIN := Lib.hid hin
        clear hin
        go_wp2_with fail
        obtain ⟨wa, hwa⟩ : ∃ wa, wa = wr.alloc (.cells #[.int .i64 r.pos, .string r.dat] 37) := ⟨_, rfl⟩
        obtain ⟨bx, hbx⟩ : ∃ bx, bx = wr.heap.size := ⟨_, rfl⟩
        have NB := Row.new wr 37 [.int .i64 r.pos, .string r.dat] _ rfl
        have gA := (Grow.refl wr).alloc (.cells #[.int .i64 r.pos, .string r.dat] 37)
        rw [← hwa, ← hbx] at NB
        rw [← hwa] at gA
        have HGA := Lib.hid gA
        have hbF2 : ¬ x.F bx := fun q => by have := HLG.out.1.lt bx q; omega
        have hwz : wr.heap.size ≤ wa.heap.size := gA.size
        have hsS : (wa.cell? ⟨lb, 0, none⟩ = some (.pointer (some ⟨l, 0, none⟩)) ∧ wa.cell? ⟨l, 0, none⟩ = some (.pointer (some ⟨x.p, 0, none⟩)) ∧ wa.cell? ⟨bx, 0, none⟩ = some (.int .i64 r.pos) ∧ wa.cell? ⟨bx, 1, none⟩ = some (.string r.dat)) := ⟨gA.cell bl, gA.cell cl, NB.1.c2.1, NB.1.c2.2⟩
        have HFS := Lib.hid (And.intro hbF (And.intro HLG.out.2.2 hbF2))
        rw [← hwa, ← hbx]
        have kc := fun (u : World) => Lib.run_convert_string_bytes (P := Try.prog) u 9 22 5 r.dat Try.underlying9 Try.underlying22 Try.underlying5
        clear hwa hbx NB gA d0 d1 bl cl
        refine wp_region_held_drew (S := fun w' => w'.cell? ⟨lb, 0, none⟩ = some (.pointer (some ⟨l, 0, none⟩)) ∧ w'.cell? ⟨l, 0, none⟩ = some (.pointer (some ⟨x.p, 0, none⟩)) ∧ w'.cell? ⟨bx, 0, none⟩ = some (.int .i64 r.pos) ∧ w'.cell? ⟨bx, 1, none⟩ = some (.string r.dat)) (by kernel_rfl) ?_ (fun hHeld => ?_)
        · exact hsS
        refine wpAnyH_take (i := 0) (oi := _) (v := ?_) rfl (by kernel_rfl) (by kernel_rfl) (by kernel_rfl) (fun _ _ _ h => h) (Or.inl ⟨by rfl, ?_⟩) (by assumption) ?_
        rotate_left
        · (intro w hSw; (try dsimp only at hSw); go_simp; (try with_reducible rfl))
        simp only [Act.put, List.setIfInBounds_toArray]
        refine wpAnyH_take (i := 1) (oi := _) (v := ?_) rfl (by kernel_rfl) (by kernel_rfl) (by kernel_rfl) (fun _ _ _ h => h) (Or.inl ⟨by rfl, ?_⟩) (by assumption) ?_
        rotate_left
        · (intro w hSw; (try dsimp only at hSw); go_simp; (try with_reducible rfl))
        simp only [Act.put]
        refine wpAnyH_take (i := 2) (oi := _) (v := ?_) rfl (by kernel_rfl) (by kernel_rfl) (by kernel_rfl) (fun _ _ _ h => h) (Or.inl ⟨by rfl, ?_⟩) (by assumption) ?_
        rotate_left
        · (intro w hSw; (try dsimp only at hSw); go_simp; (try with_reducible rfl))
        simp only [Act.put]
        refine wpAnyH_take (i := 3) (oi := _) (v := ?_) rfl (by kernel_rfl) (by kernel_rfl) (by kernel_rfl) (fun _ _ _ h => h) (Or.inl ⟨by rfl, ?_⟩) (by assumption) ?_
        rotate_left
        · (intro w hSw; (try dsimp only at hSw); go_simp; (try with_reducible rfl))
        simp only [Act.put]
        refine wpAnyH_take (i := 4) (oi := _) (v := ?_) rfl (by kernel_rfl) (by kernel_rfl) (by kernel_rfl) (fun _ _ _ h => h) (Or.inl ⟨by rfl, ?_⟩) (by assumption) ?_
        rotate_left
        · (intro w hSw; (try dsimp only at hSw); go_simp; (try with_reducible rfl))
        simp only [Act.put]
        refine wpAnyH_take (i := 5) (oi := _) (v := ?_) rfl (by kernel_rfl) (by kernel_rfl) (by kernel_rfl) (fun _ _ _ h => h) (Or.inl ⟨by rfl, ?_⟩) (by assumption) ?_
        rotate_left
        · (intro w hSw; (try dsimp only at hSw); go_simp; (try with_reducible rfl))
        simp only [Act.put]
        refine wpAnyH_take (i := 6) (oi := _) (v := ?_) rfl (by kernel_rfl) (by kernel_rfl) (by kernel_rfl) (fun _ _ _ h => h) (Or.inl ⟨by rfl, ?_⟩) (by assumption) ?_
        rotate_left
        · (intro w hSw; (try dsimp only at hSw); go_simp; (try with_reducible rfl))
        simp only [Act.put]
        refine wpAnyH_take (i := 7) (oi := _) (v := ?_) rfl (by kernel_rfl) (by kernel_rfl) (by kernel_rfl) (fun _ _ _ h => h) (Or.inl ⟨by rfl, ?_⟩) (by assumption) ?_
        rotate_left
        · (intro w hSw; (try dsimp only at hSw); go_simp; (try with_reducible rfl))
        simp only [Act.put]
        refine wpAnyH_ready (rs := [8]) (by kernel_rfl) (by simp) ?_
        refine AllReadyH.cons (o := _) rfl (fun K hK => ?_) AllReadyH.nil
        go_simp
        refine hK.out _ _ (redo4_grow (bytesGrow _ _) (by assumption)) (fun hHeld2 => ?_)
        clear hK K
        refine wpAnyH_ready (rs := [9]) (by kernel_rfl) (by simp) ?_
        refine AllReadyH.cons (o := _) rfl (fun K hK => ?_) AllReadyH.nil
        go_simp
        refine (pl_store_ok HLG.out r HIN.out ?_ _ _ ?_ ?_).mono ?_; (repeat (first | exact Grow.refl _ | exact HGA.out | refine Grow.drew ?_ | refine Grow.drewN ?_ _ | refine Grow.trans ?_ (bytesGrow _ _))); (first | exact hwz | (simp; exact hwz)); (first | exact (bytes_of _ _ (by omega)).1 | exact (bytes_of _ _ (by omega)).1.drew); rintro e w5 ⟨rfl, h5, t5, t6⟩; have hs5 := redo4_turn (r := r) t5 HFS.out.1 HFS.out.2.1 HFS.out.2.2 (by assumption)
        refine hK.out _ _ hs5 (fun hHeld5 => ?_)
        clear hK K
        refine wpAnyH_take (i := 10) (oi := { dst := some 24, op := .binOp .eql 25 (.tmp 23) (.const (.int .i64 0)) 25, type := 4, pos := _, after := #[{ on := 9, ground := .data }], guard := none }) (v := ?_) rfl (by kernel_rfl) (by kernel_rfl) (by kernel_rfl) (fun _ _ _ h => h) (Or.inl ⟨by rfl, ?_⟩) (by assumption) ?_
        rotate_left
        · (intro w hSw; (try dsimp only at hSw); go_simp; (try with_reducible rfl))
        simp only [Act.put, List.setIfInBounds_toArray]
        refine wpAnyH_done (by kernel_rfl) ?_ _
        all_goals
          have H5 := Lib.hid h5
          have HT5 := Lib.hid (HT.out.and t6)
          clear h5 t5 t6 kc hsS
          go_wp2_with fail
          go_region_held3 (fun w' => w'.cell? ⟨lb, 0, none⟩ = some (.pointer (some ⟨l, 0, none⟩)) ∧ w'.cell? ⟨l, 0, none⟩ = some (.pointer (some ⟨x.p, 0, none⟩)) ∧ w'.cell? ⟨bx, 0, none⟩ = some (.int .i64 r.pos) ∧ w'.cell? ⟨bx, 1, none⟩ = some (.string r.dat)) (first | exact hs5 | exact hs6) ((go_at_call 18; go_loud (refine (pl_flush_at H5.out r (by omega) ?_).mono ?_; (repeat (first | exact Grow.refl _ | refine Grow.drew ?_ | refine Grow.drewN ?_ _)); rintro e w6 ⟨er, rfl, h6, t6, t7⟩; have hs6 := redo4_turn (r := r) t6 HFS.out.1 HFS.out.2.1 HFS.out.2.2 (by assumption))))
          all_goals
            have H6 := Lib.hid h6
            have HT7 := Lib.hid (HT5.out.and t7)
            clear h6 t6 t7 hs5 hs6
            have X : RedoInv w1 w6 l x s L (.int .i64 ((k : Int) + 1)) := ⟨k + 1, by simp, by have := HN.out; omega, by rw [HRK.out, MS.patch, if_pos HIN.out]; exact H6.out, HT7.out⟩
            have HX := Lib.hid X
            clear X
            go_wp2_with fail
            have e5 : wrap64 ((k : Int) + 1) = (k : Int) + 1 := IntWalk.wrap64_in _ (by omega)
            go_roundw
            case rel => (try rw [e5]); first | exact HX.out | ((repeat apply Exists.intro); exact HX.out) | ((repeat apply Exists.intro); refine ⟨HX.out, ?_⟩; rfl)
            case measure => first | exact measP hlt | exact measPW hlt e5
      | false =>
        have HIN := Lib.hid hin
        clear hin
        go_wp2_with fail
        obtain ⟨wa, hwa⟩ : ∃ wa, wa = wr.alloc (.cells #[.int .i64 r.pos, .string r.dat] 37) := ⟨_, rfl⟩
        obtain ⟨bx, hbx⟩ : ∃ bx, bx = wr.heap.size := ⟨_, rfl⟩
        have NB := Row.new wr 37 [.int .i64 r.pos, .string r.dat] _ rfl
        have gA := (Grow.refl wr).alloc (.cells #[.int .i64 r.pos, .string r.dat] 37)
        rw [← hwa, ← hbx] at NB
        rw [← hwa] at gA
        have HGA := Lib.hid gA
        have hbF2 : ¬ x.F bx := fun q => by have := HLG.out.1.lt bx q; omega
        have hwz : wr.heap.size ≤ wa.heap.size := gA.size
        have hsS : (wa.cell? ⟨lb, 0, none⟩ = some (.pointer (some ⟨l, 0, none⟩)) ∧ wa.cell? ⟨l, 0, none⟩ = some (.pointer (some ⟨x.p, 0, none⟩)) ∧ wa.cell? ⟨bx, 0, none⟩ = some (.int .i64 r.pos) ∧ wa.cell? ⟨bx, 1, none⟩ = some (.string r.dat)) := ⟨gA.cell bl, gA.cell cl, NB.1.c2.1, NB.1.c2.2⟩
        have HFS := Lib.hid (And.intro hbF (And.intro HLG.out.2.2 hbF2))
        rw [← hwa, ← hbx]
        have kc := fun (u : World) => Lib.run_convert_string_bytes (P := Try.prog) u 9 22 5 r.dat Try.underlying9 Try.underlying22 Try.underlying5
        clear hwa hbx NB gA d0 d1 bl cl
        refine wp_region_held_drew (S := fun w' => w'.cell? ⟨lb, 0, none⟩ = some (.pointer (some ⟨l, 0, none⟩)) ∧ w'.cell? ⟨l, 0, none⟩ = some (.pointer (some ⟨x.p, 0, none⟩)) ∧ w'.cell? ⟨bx, 0, none⟩ = some (.int .i64 r.pos) ∧ w'.cell? ⟨bx, 1, none⟩ = some (.string r.dat)) (by kernel_rfl) ?_ (fun hHeld => ?_)
        · exact hsS
        refine wpAnyH_take (i := 0) (oi := _) (v := ?_) rfl (by kernel_rfl) (by kernel_rfl) (by kernel_rfl) (fun _ _ _ h => h) (Or.inl ⟨by rfl, ?_⟩) (by assumption) ?_
        rotate_left
        · (intro w hSw; (try dsimp only at hSw); go_simp; (try with_reducible rfl))
        simp only [Act.put, List.setIfInBounds_toArray]
        refine wpAnyH_take (i := 1) (oi := _) (v := ?_) rfl (by kernel_rfl) (by kernel_rfl) (by kernel_rfl) (fun _ _ _ h => h) (Or.inl ⟨by rfl, ?_⟩) (by assumption) ?_
        rotate_left
        · (intro w hSw; (try dsimp only at hSw); go_simp; (try with_reducible rfl))
        simp only [Act.put]
        refine wpAnyH_take (i := 2) (oi := _) (v := ?_) rfl (by kernel_rfl) (by kernel_rfl) (by kernel_rfl) (fun _ _ _ h => h) (Or.inl ⟨by rfl, ?_⟩) (by assumption) ?_
        rotate_left
        · (intro w hSw; (try dsimp only at hSw); go_simp; (try with_reducible rfl))
        simp only [Act.put]
        refine wpAnyH_take (i := 3) (oi := _) (v := ?_) rfl (by kernel_rfl) (by kernel_rfl) (by kernel_rfl) (fun _ _ _ h => h) (Or.inl ⟨by rfl, ?_⟩) (by assumption) ?_
        rotate_left
        · (intro w hSw; (try dsimp only at hSw); go_simp; (try with_reducible rfl))
        simp only [Act.put]
        refine wpAnyH_take (i := 4) (oi := _) (v := ?_) rfl (by kernel_rfl) (by kernel_rfl) (by kernel_rfl) (fun _ _ _ h => h) (Or.inl ⟨by rfl, ?_⟩) (by assumption) ?_
        rotate_left
        · (intro w hSw; (try dsimp only at hSw); go_simp; (try with_reducible rfl))
        simp only [Act.put]
        refine wpAnyH_take (i := 5) (oi := _) (v := ?_) rfl (by kernel_rfl) (by kernel_rfl) (by kernel_rfl) (fun _ _ _ h => h) (Or.inl ⟨by rfl, ?_⟩) (by assumption) ?_
        rotate_left
        · (intro w hSw; (try dsimp only at hSw); go_simp; (try with_reducible rfl))
        simp only [Act.put]
        refine wpAnyH_take (i := 6) (oi := _) (v := ?_) rfl (by kernel_rfl) (by kernel_rfl) (by kernel_rfl) (fun _ _ _ h => h) (Or.inl ⟨by rfl, ?_⟩) (by assumption) ?_
        rotate_left
        · (intro w hSw; (try dsimp only at hSw); go_simp; (try with_reducible rfl))
        simp only [Act.put]
        refine wpAnyH_take (i := 7) (oi := _) (v := ?_) rfl (by kernel_rfl) (by kernel_rfl) (by kernel_rfl) (fun _ _ _ h => h) (Or.inl ⟨by rfl, ?_⟩) (by assumption) ?_
        rotate_left
        · (intro w hSw; (try dsimp only at hSw); go_simp; (try with_reducible rfl))
        simp only [Act.put]
        refine wpAnyH_ready (rs := [8]) (by kernel_rfl) (by simp) ?_
        refine AllReadyH.cons (o := _) rfl (fun K hK => ?_) AllReadyH.nil
        go_simp
        refine hK.out _ _ (redo4_grow (bytesGrow _ _) (by assumption)) (fun hHeld2 => ?_)
        clear hK K
        refine wpAnyH_ready (rs := [9]) (by kernel_rfl) (by simp) ?_
        refine AllReadyH.cons (o := _) rfl (fun K hK => ?_) AllReadyH.nil
        go_simp
        refine (pl_store_no HLG.out r HIN.out ?_ _ _ ?_ ?_).mono ?_; (repeat (first | exact Grow.refl _ | exact HGA.out | refine Grow.drew ?_ | refine Grow.drewN ?_ _ | refine Grow.trans ?_ (bytesGrow _ _))); (first | exact hwz | (simp; exact hwz)); (first | exact (bytes_of _ _ (by omega)).1 | exact (bytes_of _ _ (by omega)).1.drew); rintro e w5 ⟨rfl, h5, t5, t6⟩; have hs5 := redo4_turn (r := r) t5 HFS.out.1 HFS.out.2.1 HFS.out.2.2 (by assumption)
        refine hK.out _ _ hs5 (fun hHeld5 => ?_)
        clear hK K
        refine wpAnyH_take (i := 10) (oi := { dst := some 24, op := .binOp .eql 25 (.tmp 23) (.const (.int .i64 0)) 25, type := 4, pos := _, after := #[{ on := 9, ground := .data }], guard := none }) (v := ?_) rfl (by kernel_rfl) (by kernel_rfl) (by kernel_rfl) (fun _ _ _ h => h) (Or.inl ⟨by rfl, ?_⟩) (by assumption) ?_
        rotate_left
        · (intro w hSw; (try dsimp only at hSw); go_simp; (try with_reducible rfl))
        simp only [Act.put, List.setIfInBounds_toArray]
        refine wpAnyH_done (by kernel_rfl) ?_ _
        all_goals
          have H5 := Lib.hid h5
          have HT5 := Lib.hid (HT.out.and t6)
          clear h5 t5 t6 kc hsS
          clear hs5
          have X : RedoInv w1 w5 l x s L (.int .i64 ((k : Int) + 1)) := ⟨k + 1, by simp, by have := HN.out; omega, by rw [HRK.out, MS.patch, if_neg (by rw [HIN.out]; simp)]; exact H5.out, HT5.out⟩
          have HX := Lib.hid X
          clear X
          go_wp2_with fail
          have e5 : wrap64 ((k : Int) + 1) = (k : Int) + 1 := IntWalk.wrap64_in _ (by omega)
          go_roundw
          case rel => (try rw [e5]); first | exact HX.out | ((repeat apply Exists.intro); exact HX.out) | ((repeat apply Exists.intro); refine ⟨HX.out, ?_⟩; rfl)
          case measure => first | exact measP hlt | exact measPW hlt e5
    · obtain rfl : k = n := by omega
      have HLE := Lib.hid (show s.patches (L.take k) = s.patches L by rw [List.take_of_length_le (by rw [← HN.out]; exact Nat.le_refl _)])
      clear hlt
      go_wp2_with fail
      go_end0
      refine ⟨rfl, M1.out.turn HT.out hmF, by rw [← HLE.out]; exact HLG.out, ?_⟩
      exact (HT1.out.mono fun i hi => .inl hi).and (HT.out.mono fun i hi => .inr hi)

def RedoJ (w : World) (l : Nat) (x : MB) (s : MS) (_B i : Nat) (u : World) : Prop := Row u (w.heap.size + 1) [.int .i64 (i : Int)] ∧ Blk u w.heap.size [.pointer (some ⟨l, 0, none⟩)] ∧ LG u l x (s.redone ((lgL s.S).take i)) ∧ Turn x.F w u
theorem redone_step {s : MS} {R : List (List PT)} {i : Nat} {L : List PT} (h : R[i]? = some L) : s.redone (R.take (i + 1)) = (s.redone (R.take i)).patches L := by
  rw [List.take_add_one, h]
  simp [MS.redone, List.foldl_append]

theorem dpL_few {b : List UInt8} : (dpL b).length ≤ 64 ∧ ∀ p ∈ dpL b, p.dat.size ≤ 256 := by
  by_cases h : dpE b = 0
  · obtain ⟨h1, -, -, -⟩ := dp_can h
    obtain ⟨h2, h3⟩ := mayP_iff.1 h1
    exact ⟨h2, fun p hp => (PT.may_iff.1 (List.all_eq_true.1 h3 p hp)).2⟩
  · rw [dpL, if_neg h]; simp
theorem rcL_few : ∀ (n : Nat) (b : List UInt8), b.length ≤ n → ∀ L ∈ rcL b, L.length ≤ 64 ∧ ∀ p ∈ L, p.dat.size ≤ 256
  | n, b, hn => by
    by_cases h : dpE b = 0
    · have h1 := dpU_pos h
      rw [rcL_go h]
      intro L hL
      rcases List.mem_cons.1 hL with rfl | hL
      · exact dpL_few
      match n with
      | 0 => omega
      | n + 1 => exact rcL_few n (b.drop (dpU b)) (by rw [List.length_drop]; omega) L hL
    · rw [rcL_end h]; intro L hL; simp at hL

set_option maxHeartbeats 4000000 in
set_option maxRecDepth 8000 in
theorem pl_redo {w : World} {l : Nat} {x : MB} {s : MS} (h : LG w l x s) :
    Calls Try.prog 22 #[.pointer (some ⟨l, 0, none⟩)] w fun e w' => e = .returned (.int .i64 ((lgL s.S).length : Nat)) ∧ LG w' l x s.redo ∧ Turn x.F w w' := by
  have H := Lib.hid h
  have HF := Lib.hid (recs_few s h.lenS)
  have HLT := Lib.hid h.1.lt
  have hlw := h.2.1.1
  clear h
  go_enter Try.func22, Try.ntmps22
  go_wp2_with fail
  have g0 : Grow w ((w.alloc (.cells #[.pointer (some ⟨l, 0, none⟩)] 27)).alloc (.cells #[.int .i64 0] 3)) := ((Grow.refl w).alloc _).alloc _
  have hsz : ((w.alloc (.cells #[.pointer (some ⟨l, 0, none⟩)] 27)).alloc (.cells #[.int .i64 0] 3)).heap.size = w.heap.size + 2 := by simp
  have HB0 : Blk ((w.alloc (.cells #[.pointer (some ⟨l, 0, none⟩)] 27)).alloc (.cells #[.int .i64 0] 3)) w.heap.size [.pointer (some ⟨l, 0, none⟩)] := (Blk.new w _ [.pointer (some ⟨l, 0, none⟩)] _ (0, 0) rfl).keep ((Grow.refl _).alloc _)
  have HR0 : Row ((w.alloc (.cells #[.pointer (some ⟨l, 0, none⟩)] 27)).alloc (.cells #[.int .i64 0] 3)) (w.heap.size + 1) [.int .i64 ((0 : Nat) : Int)] := by
    have := Row.new (w.alloc (.cells #[.pointer (some ⟨l, 0, none⟩)] 27)) 3 [.int .i64 0] _ rfl
    simpa using this
  obtain ⟨w1, hw1⟩ : ∃ w1, w1 = (w.alloc (.cells #[.pointer (some ⟨l, 0, none⟩)] 27)).alloc (.cells #[.int .i64 0] 3) := ⟨_, rfl⟩
  rw [← hw1] at g0 hsz HB0 HR0 ⊢
  clear hw1
  have hmF : ¬ x.F (w.heap.size + 1) := fun q => by have := HLT.out _ q; omega
  have hbF : ¬ x.F w.heap.size := fun q => by have := HLT.out _ q; omega
  refine (pl_each (H.out.keep g0) 46 #[.pointer (some ⟨w.heap.size + 1, 0, none⟩), .pointer (some ⟨w.heap.size, 0, none⟩)] (enters Try.func46 (by kernel_rfl) rfl) (RedoJ w l x s) ?_ ?_ ?_).mono ?_
  · intro u g
    exact ⟨HR0.keep g, HB0.keep g, H.out.keep (g0.trans g), Turn.grow (g0.trans g) _⟩
  · rintro B i u u' ⟨h1, h2, h3, h4⟩ g
    exact ⟨h1.keep g, h2.keep g, h3.keep g, h4.andGrow g⟩
  · rintro B i u0 u v L ⟨h1, h2, h3, h4⟩ g hB hB0 hL hO
    have hiL : i < (lgL s.S).length := (List.getElem?_eq_some_iff.1 hL).1
    have hfew := rcL_few _ (lgB s.S) (Nat.le_refl _) L (List.mem_of_getElem? hL)
    rw [hsz] at hB
    refine (pl_redo1 (h3.keep g) (h1.keep g) (h2.keep g) hmF hbF (by omega) (by omega) (by have := HF.out; omega) hO (fun k hk => by have := HLT.out k hk; omega) (by omega) (by omega) (fun p hp => by have := hfew.2 p hp; omega)).mono ?_
    rintro e w' ⟨rfl, r1, r2, r3⟩
    refine ⟨rfl, ⟨by simpa using r1, (h2.keep g).turn r3 (fun q => q.elim (fun q => by omega) hbF), by rw [redone_step hL]; exact r2, (h4.andGrow g).trans r3 (fun k hk => hk.elim (fun q => .inr (by omega)) (fun q => .inl q))⟩, r3.mono fun k hk => ?_⟩
    rw [hsz]
    rcases hk with rfl | hk
    · omega
    · have := HLT.out k hk; omega
  rintro e w2 ⟨rfl, B, hB1, hB2, h1, h2, h3, h4⟩
  rw [List.take_of_length_le (Nat.le_refl _)] at h3
  have H2 := Lib.hid h3
  have HR2 := Lib.hid h1
  have HB2 := Lib.hid h2
  have HT2 := Lib.hid h4
  have c0 := h3.2.1.c3.1
  have b0 := h2.c1
  obtain ⟨N, hN⟩ : ∃ N, N = (lgL s.S).length := ⟨_, rfl⟩
  rw [← hN] at HR2
  have HNN := Lib.hid hN
  clear h1 h2 h3 h4 hN HB0 HR0 hB1 hB2
  go_wp2_with fail
  refine (pm_fence H2.out.1).mono ?_
  rintro e w3 ⟨rfl, hP3, t3⟩
  have H3 := Lib.hid (show LG w3 l x (s.redone (lgL s.S)).fence from ⟨hP3, H2.out.2.1.turn t3 H2.out.2.2, H2.out.2.2⟩)
  have HT3 := Lib.hid (HT2.out.and t3)
  have HR3 := Lib.hid (HR2.out.turn t3 hmF)
  have HB3 := Lib.hid (HB2.out.turn t3 hbF)
  have b1 := HB3.out.c1
  clear hP3 t3 c0 b0
  go_wp2_with fail
  refine (pl_clear H3.out).mono ?_
  rintro e w4 ⟨rfl, h4, t4⟩
  have H4 := Lib.hid h4
  have HT4 := Lib.hid (HT3.out.and t4)
  have HR4 := Lib.hid (HR3.out.turn t4 hmF)
  have m0 := HR4.out.1.c1
  clear h4 t4 b1
  go_wp2_with fail
  go_ret
  exact ⟨ret_int (by rw [HNN.out]), H4.out, HT4.out⟩
end Go.Proofs.Ytlinlmimakealaa
