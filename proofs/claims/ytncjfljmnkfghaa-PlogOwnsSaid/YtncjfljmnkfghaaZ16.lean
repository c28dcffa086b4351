/- commonsref08.SamePatches, SameRecords. commonsref08.Log: Redo. A memory of 1024 bytes and a log in its last 512: what comes of the verbs, in plain words. plog.New, and where the document has a log. No statement of the seat is proved here. -/
import Derived.Test.YtncjfljmnkfghaaZ06
import Derived.Deep.QuietTactic
import Derived.BigQuiet
import Derived.Deep.RegionHeld3
import Derived.Test.YtncjfljmnkfghaaZ15
import Derived.Test.YtncjfljmnkfghaaZ13
namespace Go.Proofs.Ytncjfljmnkfghaa
open Go.RowKit

set_option maxHeartbeats 1000000 in
theorem pats_same {A A' : Option Addr} {n c c' : Nat} {L : List PT} {w : World} (hx : RP w A n L) (hy : RP w A' n L) (hn : n ≤ 60000) :
    Calls Try.prog 19 #[.slice A n c, .slice A' n c'] w fun e w' => e = .returned (.bool true) ∧ ∃ k, w' = w.drewN k := by
  have k0 : ((n : Int) != (n : Int)) = false := by simp
  go_enter Try.func19, Try.ntmps19
  go_wp2_with fail
  go_loopw [5] (fun i wr => ∃ k m : Nat, k ≤ n ∧ i = .int .i64 k ∧ wr = w.drewN m) (fun i _ => n - (intOf i).toNat)
  case atStart => exact ⟨0, 0, Nat.zero_le _, rfl, rfl⟩
  case round =>
    obtain ⟨k, m, hk, rfl, rfl⟩ := hrel
    by_cases hlt : k < n
    · obtain ⟨b, o, r, hr, rfl, -, c1, c2⟩ := hx.at_ hlt
      obtain ⟨b', o', r', hr', rfl, -, d1, d2⟩ := hy.at_ hlt
      obtain rfl : r = r' := by rw [hr] at hr'; injection hr'
      clear hr hr'
      go_wp2_with fail
      go_quiet (fail)
      go_wp2_with fail
      go_roundw
      case rel => exact ⟨k + 1, _, by omega, by go_num, rfl⟩
      case measure => simp [intOf]; omega
    · go_wp2_with fail
      go_ret
      exact ⟨rfl, _, rfl⟩

/-- A slice that reads as rows of patches. -/
def RV (w : World) (A : Option Addr) (n : Nat) (R : List RW) : Prop := R.length = n ∧ n ≤ 1000000 ∧ Rd w w.heap.size A 1 n (R.map RW.v) ∧ ∀ r ∈ R, OP w 0 r.v r.L
section
variable {w w' : World} {A : Option Addr} {n base : Nat} {R : List RW} {v : Value}
theorem RV.keep (h : RV w A n R) (g : Grow w w') : RV w' A n R := ⟨h.1, h.2.1, (Rd.below h.2.2.1 g).more g.size, fun r hr => (h.2.2.2 r hr).keep g⟩
theorem RV.at_ (h : RV w A n R) {i : Nat} (hi : i < n) : ∃ b o r, R[i]? = some r ∧ A = some ⟨b, o, none⟩ ∧ b < w.heap.size ∧ w.cell? ⟨b, o + i, none⟩ = some r.v ∧ OP w 0 r.v r.L := by
  obtain ⟨hn, -, ⟨hl, hr⟩, ho⟩ := h
  obtain ⟨b, o, rfl, hb, hc⟩ := hr (by omega)
  have hi' : i < R.length := by omega
  exact ⟨b, o, R[i], by simp [hi'], rfl, hb, hc i _ (by simp [hi']), ho _ (List.getElem_mem _)⟩
theorem RV.take (h : RV w A n R) {k : Nat} (hk : k ≤ n) : RV w A k (R.take k) := by
  obtain ⟨h1, h2, h3, h4⟩ := h
  refine ⟨by rw [List.length_take]; omega, by omega, ?_, fun r hr => h4 r (List.mem_of_mem_take hr)⟩
  have := Rd.take h3 hk
  rw [Nat.mul_one] at this
  rw [List.map_take]
  exact this
theorem OW.rv (h : OW w base v R) (hn : R.length ≤ 1000000) : ∃ A c, v = .slice A R.length c ∧ R.length ≤ c ∧ RV w A R.length R := by
  obtain ⟨A, c, rfl, h1, -, -, -⟩ := own_form h.1
  exact ⟨A, c, rfl, h1, rfl, hn, Rd.of_own h.1, fun r hr => (h.2.1 r hr).low (Nat.zero_le _)⟩
end

set_option maxHeartbeats 1000000 in
theorem recs_same {A A' : Option Addr} {n c c' : Nat} {R R' : List RW} {w : World} (hx : RV w A n R) (hy : RV w A' n R') (he : R.map RW.L = R'.map RW.L) (hn : n ≤ 60000) (hL : ∀ r ∈ R, r.L.length ≤ 60000) :
    Calls Try.prog 37 #[.slice A n c, .slice A' n c'] w fun e w' => e = .returned (.bool true) ∧ Grow w w' := by
  have k0 : ((n : Int) != (n : Int)) = false := by simp
  have HX := Lib.hid hx
  have HY := Lib.hid hy
  have HE := Lib.hid he
  have HL := Lib.hid hL
  clear hx hy he hL
  go_enter Try.func37, Try.ntmps37
  go_wp2_with fail
  go_loopw [5] (fun i wr => ∃ k : Nat, k ≤ n ∧ i = .int .i64 k ∧ Grow w wr) (fun i _ => n - (intOf i).toNat)
  case atStart => exact ⟨0, Nat.zero_le _, rfl, Grow.refl _⟩
  case round =>
    obtain ⟨k, hk, rfl, hg⟩ := hrel
    have HG := Lib.hid hg
    clear hg
    by_cases hlt : k < n
    · obtain ⟨b, o, r, hr, rfl, -, c1, o1⟩ := HX.out.at_ hlt
      obtain ⟨b', o', r', hr', rfl, -, d1, o2⟩ := HY.out.at_ hlt
      have hrl : r.L = r'.L := by
        have h1 : (R.map RW.L)[k]? = some r.L := by rw [List.getElem?_map, hr]; rfl
        rw [HE.out, List.getElem?_map, hr'] at h1
        injection h1 with h1
        exact h1.symm
      have hll := HL.out r (List.mem_of_getElem? hr)
      obtain ⟨v, L⟩ := r
      obtain ⟨v', L'⟩ := r'
      simp only at hrl c1 d1 o1 o2 hll
      subst hrl
      obtain ⟨Ar, cr, rfl, -, p1⟩ := o1.rp (by omega)
      obtain ⟨Ar', cr', rfl, -, p2⟩ := o2.rp (by omega)
      have HP1 := Lib.hid p1
      have HP2 := Lib.hid p2
      obtain ⟨q, hq⟩ : ∃ q, q = L.length := ⟨_, rfl⟩
      rw [← hq] at HP1 HP2 c1 d1 hll
      clear hr hr' o1 o2 p1 p2 hq
      go_wp2_with fail
      replace c1 := HG.out.cell c1
      replace d1 := HG.out.cell d1
      go_region_held3 (fun w' => w'.cell? ⟨b, o + k, none⟩ = some (.slice Ar q cr) ∧ w'.cell? ⟨b', o' + k, none⟩ = some (.slice Ar' q cr')) (first | exact ⟨c1, d1⟩ | exact hs3) ((go_at_call 19; go_loud (refine (pats_same (HP1.out.keep (HG.out.trans (Grow.drewN (Grow.refl _) 1))) (HP2.out.keep (HG.out.trans (Grow.drewN (Grow.refl _) 1))) hll).mono ?_; rintro e w3 ⟨rfl, k3, hw3⟩; have g3 : Grow wr w3 := (by rw [hw3]; exact Grow.drewN (Grow.drew (Grow.refl _)) _); have hs3 : w3.cell? ⟨b, o + k, none⟩ = some (.slice Ar q cr) ∧ w3.cell? ⟨b', o' + k, none⟩ = some (.slice Ar' q cr') := ⟨g3.cell c1, g3.cell d1⟩; clear hw3)))
      all_goals
        have X := HG.out.trans g3
        clear c1 d1 hs3 g3
        go_wp2_with fail
        go_roundw
        case rel => exact ⟨k + 1, by omega, by go_num, X⟩
        case measure => simp [intOf]; omega
    · go_wp2_with fail
      go_ret
      exact ⟨rfl, HG.out⟩

/-- Rows of unlike lengths are not the same. -/
theorem recs_len {A A' : Option Addr} {n n' c c' : Nat} {R R' : List RW} {w : World} (_hx : RV w A n R) (_hy : RV w A' n' R') (hn : n ≠ n') :
    Calls Try.prog 37 #[.slice A n c, .slice A' n' c'] w fun e w' => e = .returned (.bool false) ∧ w = w' := by
  have k0 : ((n : Int) != (n' : Int)) = true := by rw [bne_iff_ne]; omega
  go_enter Try.func37, Try.ntmps37
  go_wp2_with fail
  go_ret
  exact ⟨rfl, rfl⟩
end Go.Proofs.Ytncjfljmnkfghaa

namespace Go.Proofs.Ytncjfljmnkfghaa
open Go.RowKit

section
variable {w w' : World} {l p bx : Nat} {r : PT} {F : Nat → Prop}
theorem redo3_grow (g : Grow w w') (h : w.cell? ⟨l, 0, none⟩ = some (.pointer (some ⟨p, 0, none⟩)) ∧ w.cell? ⟨bx, 0, none⟩ = some (.int .i64 r.pos) ∧ w.cell? ⟨bx, 1, none⟩ = some (.string r.dat)) : w'.cell? ⟨l, 0, none⟩ = some (.pointer (some ⟨p, 0, none⟩)) ∧ w'.cell? ⟨bx, 0, none⟩ = some (.int .i64 r.pos) ∧ w'.cell? ⟨bx, 1, none⟩ = some (.string r.dat) := ⟨g.cell h.1, g.cell h.2.1, g.cell h.2.2⟩
theorem redo3_turn (t : Turn F w w') (h2 : ¬ F l) (h3 : ¬ F bx) (h : w.cell? ⟨l, 0, none⟩ = some (.pointer (some ⟨p, 0, none⟩)) ∧ w.cell? ⟨bx, 0, none⟩ = some (.int .i64 r.pos) ∧ w.cell? ⟨bx, 1, none⟩ = some (.string r.dat)) : w'.cell? ⟨l, 0, none⟩ = some (.pointer (some ⟨p, 0, none⟩)) ∧ w'.cell? ⟨bx, 0, none⟩ = some (.int .i64 r.pos) ∧ w'.cell? ⟨bx, 1, none⟩ = some (.string r.dat) := ⟨t.cell' h.1 h2, t.cell' h.2.1 h3, t.cell' h.2.2 h3⟩
end
theorem rl_store_ok {w wz : World} {l : Nat} {x : MB} {s : MS} (h : RL w l x s) (r : PT) (hin : inW 1024 r.pos r.dat.size = true) (g : Grow w wz) (k c : Nat) (hk : w.heap.size ≤ k) (hs : Sl wz (some ⟨k, 0, none⟩) r.dat.size r.txt) :
    Calls Try.prog 68 #[.pointer (some ⟨x.p, 0, none⟩), .int .i64 r.pos, .slice (some ⟨k, 0, none⟩) r.dat.size c] wz fun e w' => e = .returned (.int .i64 0) ∧ RL w' l x (s.store r.pos r.txt) ∧ Turn x.F wz w' ∧ Turn x.F w w' := by
  refine (rm_storeU (h.1.keep g) hs (fun _ p hp q => ?_) r.pos).mono ?_
  · injection hp with hp
    subst hp
    have q' : x.F k := q
    have := h.1.lt k q'
    omega
  rintro e w' ⟨rfl, h5, t5⟩
  rw [show inW (8 * 128) r.pos r.dat.size = true from hin]
  have hl : r.txt.length = r.dat.size := hs.1
  refine ⟨rfl, ⟨?_, (h.2.1.keep g).turn t5 h.2.2, h.2.2⟩, t5, (Turn.grow g _).and t5⟩
  simp only [MS.store]
  rw [hl]
  exact h5
theorem rl_store_no {w wz : World} {l : Nat} {x : MB} {s : MS} (h : RL w l x s) (r : PT) (hin : inW 1024 r.pos r.dat.size = false) (g : Grow w wz) (k c : Nat) (hk : w.heap.size ≤ k) (hs : Sl wz (some ⟨k, 0, none⟩) r.dat.size r.txt) :
    Calls Try.prog 68 #[.pointer (some ⟨x.p, 0, none⟩), .int .i64 r.pos, .slice (some ⟨k, 0, none⟩) r.dat.size c] wz fun e w' => e = .returned (.int .i64 1) ∧ RL w' l x s ∧ Turn x.F wz w' ∧ Turn x.F w w' := by
  refine (rm_storeU (h.1.keep g) hs (fun _ p hp q => ?_) r.pos).mono ?_
  · injection hp with hp
    subst hp
    have q' : x.F k := q
    have := h.1.lt k q'
    omega
  rintro e w' ⟨rfl, h5, t5⟩
  rw [show inW (8 * 128) r.pos r.dat.size = false from hin]
  have hl : r.txt.length = r.dat.size := hs.1
  refine ⟨rfl, ⟨?_, (h.2.1.keep g).turn t5 h.2.2, h.2.2⟩, t5, (Turn.grow g _).and t5⟩
  have e := store_no (s := s) hin
  rw [← e]
  simp only [MS.store]
  rw [hl]
  exact h5
theorem rl_flush_at {w wz : World} {l : Nat} {x : MB} {s : MS} (h : RL w l x s) (r : PT) (g : Grow w wz) :
    Calls Try.prog 69 #[.pointer (some ⟨x.p, 0, none⟩), .int .i64 r.pos, .int .i64 (r.dat.size : Nat)] wz fun e w' => ∃ er, e = .returned (.int .i64 er) ∧ RL w' l x (s.flush r.pos r.dat.size) ∧ Turn x.F wz w' ∧ Turn x.F w w' := by
  refine (rm_flushU (h.1.keep g) r.pos (r.dat.size : Nat)).mono ?_
  rintro e w' ⟨rfl, h5, t5⟩
  exact ⟨_, rfl, ⟨h5, (h.2.1.keep g).turn t5 h.2.2, h.2.2⟩, t5, (Turn.grow g _).and t5⟩

def RedoIn (w wr : World) (l : Nat) (x : MB) (s : MS) (L : List PT) (t : Value) : Prop := ∃ k : Nat, t = .int .i64 (k : Int) ∧ k ≤ L.length ∧ RL wr l x (s.patches (L.take k)) ∧ Turn x.F w wr
def RedoOut (w wr : World) (l : Nat) (x : MB) (s : MS) (LL : List (List PT)) (t : Value) : Prop := ∃ i : Nat, t = .int .i64 (i : Int) ∧ i ≤ LL.length ∧ RL wr l x (s.redone (LL.take i)) ∧ Turn x.F w wr

set_option maxHeartbeats 8000000 in
set_option maxRecDepth 8000 in
theorem rl_redo {w : World} {l : Nat} {x : MB} {s : MS} (h : RL w l x s) :
    Calls Try.prog 66 #[.pointer (some ⟨l, 0, none⟩)] w fun e w' => e = .returned (.int .i64 ((lgL s.S).length : Nat)) ∧ RL w' l x s.redo ∧ Turn x.F w w' := by
  have H := Lib.hid h
  have HF := Lib.hid (recs_few ⟨s.S, s.T, s.A⟩ h.lenS)
  have HLT := Lib.hid h.1.lt
  clear h
  go_enter Try.func66, Try.ntmps66
  go_wp2_with fail
  refine (rl_read H.out).mono ?_
  rintro e w1 ⟨v, R, rfl, how, hRL, g1⟩
  have hRl : R.length = (lgL s.S).length := by rw [← hRL, List.length_map]
  have hRn : R.length ≤ 63 := by rw [hRl]; exact HF.out
  obtain ⟨A, c, rfl, -, -⟩ := how.rv (by omega)
  obtain ⟨n, hn⟩ : ∃ n, n = R.length := ⟨_, rfl⟩
  obtain ⟨LL, hLL⟩ : ∃ LL, LL = lgL s.S := ⟨_, rfl⟩
  rw [← hn] at hRn how ⊢
  have HN0 := Lib.hid (show LL.length = n by rw [hLL, hn, hRl])
  have HOW := Lib.hid how
  have HRL := Lib.hid hRL
  have HLL := Lib.hid hLL
  have HNR := Lib.hid hn
  have H1 := Lib.hid (H.out.keep g1)
  have HG1 := Lib.hid g1
  clear how hRL hRl hn hLL g1
  go_wp2_with fail
  go_loopw [5] (fun t wr => RedoOut w1 wr l x s LL t) (fun t _ => n - (intOf t).toNat)
  case atStart => exact ⟨0, by simp, Nat.zero_le _, H1.out, Turn.refl _ _⟩
  case round =>
    obtain ⟨i, rfl, hi, hlg, ht⟩ := hrel
    have HL1 := Lib.hid hlg
    have HT1 := Lib.hid ht
    have hi' : i ≤ n := by have := HN0.out; omega
    clear hlg ht hi
    by_cases hilt : i < n
    · obtain ⟨A', c', e', -, hrv⟩ := HOW.out.rv (by have := HNR.out; omega)
      injection e' with e1 e2 e3
      subst e1
      rw [← HNR.out] at hrv
      obtain ⟨b, o, rw0, hri, rfl, -, cr, op⟩ := hrv.at_ hilt
      have hLi : LL[i]? = some rw0.L := by
        have h1 : (R.map RW.L)[i]? = some rw0.L := by rw [List.getElem?_map, hri]; rfl
        rw [HRL.out, ← HLL.out] at h1
        exact h1
      have HST := Lib.hid (redone_step (s := s) hLi)
      have hfew := rcL_few _ (lgB s.S) (Nat.le_refl _) rw0.L (by have := List.mem_of_getElem? hLi; rw [HLL.out] at this; exact this)
      obtain ⟨u, L⟩ := rw0
      simp only at cr op HST hfew
      have hmem := List.mem_of_getElem? hri
      have opw := HOW.out.2.1 _ hmem
      simp only at opw
      obtain ⟨Ai, ci, rfl, -, hrp⟩ := op.rp (by have := hfew.1; omega)
      obtain ⟨m, hm⟩ : ∃ m, m = L.length := ⟨_, rfl⟩
      rw [← hm] at cr opw hrp
      have hL : m ≤ 64 := by rw [hm]; exact hfew.1
      have HN := Lib.hid hm
      have HWW := Lib.hid hfew.2
      have HCR := Lib.hid cr
      have HRP := Lib.hid hrp
      have hbF : ¬ x.F b := fun q => by have := HLT.out b q; have := (World.ownsRow.lt HOW.out.1 b rfl).1; omega
      have HAF := Lib.hid (show 0 < m → ∀ p, Ai = some p → ¬ x.F p.block from fun _ p hp q => by
        have q1 := HLT.out _ q
        have q2 := (World.ownsRow.lt opw p.block (by rw [hp]; rfl)).1
        omega)
      clear e2 e3 hrv hri hLi hfew hmem op opw hm cr hrp
      obtain ⟨sO, hsO⟩ : ∃ sO, sO = s.redone (LL.take i) := ⟨_, rfl⟩
      rw [← hsO] at HL1 HST
      clear hsO
      go_wp2_with fail
      go_loopw [6] (fun t wr => RedoIn w1 wr l x sO L t) (fun t _ => m - (intOf t).toNat)
      case atStart => exact ⟨0, by simp, Nat.zero_le _, HL1.out, HT1.out⟩
      case round =>
        obtain ⟨k, rfl, hk, hlg, ht⟩ := hrel
        have HLG := Lib.hid hlg
        have HT := Lib.hid ht
        have hk' : k ≤ m := by rw [HN.out]; exact hk
        have cr := HT.out.cell' HCR.out hbF
        clear hlg ht hk
        by_cases hlt : k < m
        · have R1 : RP wr Ai m L := RP.turn HRP.out HT.out HAF.out
          obtain ⟨b', o', r, hrk, rfl, hb, d0, d1⟩ := R1.at_ hlt
          have hrm : r.dat.size ≤ 1000 := by have := HWW.out r (List.mem_of_getElem? hrk); omega
          have HRK := Lib.hid (patches_step (s := sO) hrk)
          have cl := HLG.out.2.1.c3.1
          obtain ⟨s2, hs2⟩ : ∃ s2, s2 = sO.patches (L.take k) := ⟨_, rfl⟩
          rw [← hs2] at HLG HRK
          clear hrk R1 hs2
          cases hin : inW 1024 r.pos r.dat.size with
          | true =>
            have HIN := Lib.hid hin
            clear hin
            go_wp2_with fail
            obtain ⟨wa, hwa⟩ : ∃ wa, wa = wr.alloc (.cells #[.int .i64 r.pos, .string r.dat] 50) := ⟨_, rfl⟩
            obtain ⟨bx, hbx⟩ : ∃ bx, bx = wr.heap.size := ⟨_, rfl⟩
            have NB := Row.new wr 50 [.int .i64 r.pos, .string r.dat] _ rfl
            have gA := (Grow.refl wr).alloc (.cells #[.int .i64 r.pos, .string r.dat] 50)
            rw [← hwa, ← hbx] at NB
            rw [← hwa] at gA
            have HGA := Lib.hid gA
            have hbF2 : ¬ x.F bx := fun q => by have := HLG.out.1.lt bx q; omega
            have hwz : wr.heap.size ≤ wa.heap.size := gA.size
            have hsS : (wa.cell? ⟨l, 0, none⟩ = some (.pointer (some ⟨x.p, 0, none⟩)) ∧ wa.cell? ⟨bx, 0, none⟩ = some (.int .i64 r.pos) ∧ wa.cell? ⟨bx, 1, none⟩ = some (.string r.dat)) := ⟨gA.cell cl, NB.1.c2.1, NB.1.c2.2⟩
            have HFS := Lib.hid (And.intro HLG.out.2.2 hbF2)
            rw [← hwa, ← hbx]
            have kc := fun (u : World) => Lib.run_convert_string_bytes (P := Try.prog) u 9 24 5 r.dat Try.underlying9 Try.underlying24 Try.underlying5
            clear hwa hbx NB gA d0 d1 cl cr
            refine wp_region_held_drew (S := fun w' => w'.cell? ⟨l, 0, none⟩ = some (.pointer (some ⟨x.p, 0, none⟩)) ∧ w'.cell? ⟨bx, 0, none⟩ = some (.int .i64 r.pos) ∧ w'.cell? ⟨bx, 1, none⟩ = some (.string r.dat)) (by kernel_rfl) ?_ (fun hHeld => ?_)
            · exact hsS
            refine wpAnyH_take (i := 0) (oi := _) (v := ?_) rfl (by kernel_rfl) (by kernel_rfl) (by kernel_rfl) (fun _ _ _ h => h) (Or.inl ⟨by rfl, ?_⟩) (by assumption) ?_
            rotate_left
            · (intro w hSw; (try dsimp only at hSw); go_simp; (try with_reducible rfl))
            simp only [Act.put, List.setIfInBounds_toArray]
            refine wpAnyH_take (i := 1) (oi := _) (v := ?_) rfl (by kernel_rfl) (by kernel_rfl) (by kernel_rfl) (fun _ _ _ h => h) (Or.inl ⟨by rfl, ?_⟩) (by assumption) ?_
            rotate_left
            · (intro w hSw; (try dsimp only at hSw); go_simp; (try with_reducible rfl))
            simp only [Act.put]
            refine wpAnyH_take (i := 2) (oi := _) (v := ?_) rfl (by kernel_rfl) (by kernel_rfl) (by kernel_rfl) (fun _ _ _ h => h) (Or.inl ⟨by rfl, ?_⟩) (by assumption) ?_
            rotate_left
            · (intro w hSw; (try dsimp only at hSw); go_simp; (try with_reducible rfl))
            simp only [Act.put]
            refine wpAnyH_take (i := 3) (oi := _) (v := ?_) rfl (by kernel_rfl) (by kernel_rfl) (by kernel_rfl) (fun _ _ _ h => h) (Or.inl ⟨by rfl, ?_⟩) (by assumption) ?_
            rotate_left
            · (intro w hSw; (try dsimp only at hSw); go_simp; (try with_reducible rfl))
            simp only [Act.put]
            refine wpAnyH_take (i := 4) (oi := _) (v := ?_) rfl (by kernel_rfl) (by kernel_rfl) (by kernel_rfl) (fun _ _ _ h => h) (Or.inl ⟨by rfl, ?_⟩) (by assumption) ?_
            rotate_left
            · (intro w hSw; (try dsimp only at hSw); go_simp; (try with_reducible rfl))
            simp only [Act.put]
            refine wpAnyH_take (i := 5) (oi := _) (v := ?_) rfl (by kernel_rfl) (by kernel_rfl) (by kernel_rfl) (fun _ _ _ h => h) (Or.inl ⟨by rfl, ?_⟩) (by assumption) ?_
            rotate_left
            · (intro w hSw; (try dsimp only at hSw); go_simp; (try with_reducible rfl))
            simp only [Act.put]
            refine wpAnyH_take (i := 6) (oi := _) (v := ?_) rfl (by kernel_rfl) (by kernel_rfl) (by kernel_rfl) (fun _ _ _ h => h) (Or.inl ⟨by rfl, ?_⟩) (by assumption) ?_
            rotate_left
            · (intro w hSw; (try dsimp only at hSw); go_simp; (try with_reducible rfl))
            simp only [Act.put]
            refine wpAnyH_take (i := 7) (oi := _) (v := ?_) rfl (by kernel_rfl) (by kernel_rfl) (by kernel_rfl) (fun _ _ _ h => h) (Or.inl ⟨by rfl, ?_⟩) (by assumption) ?_
            rotate_left
            · (intro w hSw; (try dsimp only at hSw); go_simp; (try with_reducible rfl))
            simp only [Act.put]
            refine wpAnyH_ready (rs := [8]) (by kernel_rfl) (by simp) ?_
            refine AllReadyH.cons (o := _) rfl (fun K hK => ?_) AllReadyH.nil
            go_simp
            refine hK.out _ _ (redo3_grow (bytesGrow _ _) (by assumption)) (fun hHeld2 => ?_)
            clear hK K
            refine wpAnyH_ready (rs := [9]) (by kernel_rfl) (by simp) ?_
            refine AllReadyH.cons (o := _) rfl (fun K hK => ?_) AllReadyH.nil
            go_simp
            refine (rl_store_ok HLG.out r HIN.out ?_ _ _ ?_ ?_).mono ?_; (repeat (first | exact Grow.refl _ | exact HGA.out | refine Grow.drew ?_ | refine Grow.drewN ?_ _ | refine Grow.trans ?_ (bytesGrow _ _))); (first | exact hwz | (simp; exact hwz)); (first | exact (bytes_of _ _ (by omega)).1 | exact (bytes_of _ _ (by omega)).1.drew); rintro e w5 ⟨rfl, h5, t5, t6⟩; have hs5 := redo3_turn (r := r) t5 HFS.out.1 HFS.out.2 (by assumption)
            refine hK.out _ _ hs5 (fun hHeld5 => ?_)
            clear hK K
            refine wpAnyH_take (i := 10) (oi := { dst := some 45, op := .binOp .eql 25 (.tmp 44) (.const (.int .i64 0)) 25, type := 4, pos := "ref.go:152", after := #[{ on := 9, ground := .data }], guard := none }) (v := ?_) rfl (by kernel_rfl) (by kernel_rfl) (by kernel_rfl) (fun _ _ _ h => h) (Or.inl ⟨by rfl, ?_⟩) (by assumption) ?_
            rotate_left
            · (intro w hSw; (try dsimp only at hSw); go_simp; (try with_reducible rfl))
            simp only [Act.put, List.setIfInBounds_toArray]
            refine wpAnyH_done (by kernel_rfl) ?_ _
            all_goals
              have H5 := Lib.hid h5
              have HT5 := Lib.hid (HT.out.and t6)
              clear h5 t5 t6 kc hsS
              go_wp2_with fail
              go_region_held3 (fun w' => w'.cell? ⟨l, 0, none⟩ = some (.pointer (some ⟨x.p, 0, none⟩)) ∧ w'.cell? ⟨bx, 0, none⟩ = some (.int .i64 r.pos) ∧ w'.cell? ⟨bx, 1, none⟩ = some (.string r.dat)) (first | exact hs5 | exact hs6) ((go_at_call 69; refine (rl_flush_at H5.out r ?_).mono ?_; (repeat (first | exact Grow.refl _ | refine Grow.drew ?_ | refine Grow.drewN ?_ _)); rintro e w6 ⟨er, rfl, h6, t6, t7⟩; have hs6 := redo3_turn (r := r) t6 HFS.out.1 HFS.out.2 (by assumption)))
              all_goals
                have H6 := Lib.hid h6
                have HT7 := Lib.hid (HT5.out.and t7)
                clear h6 t6 t7 hs5 hs6
                have X : RedoIn w1 w6 l x sO L (.int .i64 ((k : Int) + 1)) := ⟨k + 1, by simp, by have := HN.out; omega, by rw [HRK.out, MS.patch, if_pos HIN.out]; exact H6.out, HT7.out⟩
                have HX := Lib.hid X
                clear X
                go_wp2_with fail
                have e5 : wrap64 ((k : Int) + 1) = (k : Int) + 1 := IntWalk.wrap64_in _ (by omega)
                go_roundw
                case rel => (try rw [e5]); first | exact HX.out | ((repeat apply Exists.intro); exact HX.out) | ((repeat apply Exists.intro); refine ⟨HX.out, ?_⟩; rfl)
                case measure => first | exact measP hlt | exact measPW hlt e5
          | false =>
            have HIN := Lib.hid hin
            clear hin
            go_wp2_with fail
            obtain ⟨wa, hwa⟩ : ∃ wa, wa = wr.alloc (.cells #[.int .i64 r.pos, .string r.dat] 50) := ⟨_, rfl⟩
            obtain ⟨bx, hbx⟩ : ∃ bx, bx = wr.heap.size := ⟨_, rfl⟩
            have NB := Row.new wr 50 [.int .i64 r.pos, .string r.dat] _ rfl
            have gA := (Grow.refl wr).alloc (.cells #[.int .i64 r.pos, .string r.dat] 50)
            rw [← hwa, ← hbx] at NB
            rw [← hwa] at gA
            have HGA := Lib.hid gA
            have hbF2 : ¬ x.F bx := fun q => by have := HLG.out.1.lt bx q; omega
            have hwz : wr.heap.size ≤ wa.heap.size := gA.size
            have hsS : (wa.cell? ⟨l, 0, none⟩ = some (.pointer (some ⟨x.p, 0, none⟩)) ∧ wa.cell? ⟨bx, 0, none⟩ = some (.int .i64 r.pos) ∧ wa.cell? ⟨bx, 1, none⟩ = some (.string r.dat)) := ⟨gA.cell cl, NB.1.c2.1, NB.1.c2.2⟩
            have HFS := Lib.hid (And.intro HLG.out.2.2 hbF2)
            rw [← hwa, ← hbx]
            have kc := fun (u : World) => Lib.run_convert_string_bytes (P := Try.prog) u 9 24 5 r.dat Try.underlying9 Try.underlying24 Try.underlying5
            clear hwa hbx NB gA d0 d1 cl cr
            refine wp_region_held_drew (S := fun w' => w'.cell? ⟨l, 0, none⟩ = some (.pointer (some ⟨x.p, 0, none⟩)) ∧ w'.cell? ⟨bx, 0, none⟩ = some (.int .i64 r.pos) ∧ w'.cell? ⟨bx, 1, none⟩ = some (.string r.dat)) (by kernel_rfl) ?_ (fun hHeld => ?_)
            · exact hsS
            refine wpAnyH_take (i := 0) (oi := _) (v := ?_) rfl (by kernel_rfl) (by kernel_rfl) (by kernel_rfl) (fun _ _ _ h => h) (Or.inl ⟨by rfl, ?_⟩) (by assumption) ?_
            rotate_left
            · (intro w hSw; (try dsimp only at hSw); go_simp; (try with_reducible rfl))
            simp only [Act.put, List.setIfInBounds_toArray]
            refine wpAnyH_take (i := 1) (oi := _) (v := ?_) rfl (by kernel_rfl) (by kernel_rfl) (by kernel_rfl) (fun _ _ _ h => h) (Or.inl ⟨by rfl, ?_⟩) (by assumption) ?_
            rotate_left
            · (intro w hSw; (try dsimp only at hSw); go_simp; (try with_reducible rfl))
            simp only [Act.put]
            refine wpAnyH_take (i := 2) (oi := _) (v := ?_) rfl (by kernel_rfl) (by kernel_rfl) (by kernel_rfl) (fun _ _ _ h => h) (Or.inl ⟨by rfl, ?_⟩) (by assumption) ?_
            rotate_left
            · (intro w hSw; (try dsimp only at hSw); go_simp; (try with_reducible rfl))
            simp only [Act.put]
            refine wpAnyH_take (i := 3) (oi := _) (v := ?_) rfl (by kernel_rfl) (by kernel_rfl) (by kernel_rfl) (fun _ _ _ h => h) (Or.inl ⟨by rfl, ?_⟩) (by assumption) ?_
            rotate_left
            · (intro w hSw; (try dsimp only at hSw); go_simp; (try with_reducible rfl))
            simp only [Act.put]
            refine wpAnyH_take (i := 4) (oi := _) (v := ?_) rfl (by kernel_rfl) (by kernel_rfl) (by kernel_rfl) (fun _ _ _ h => h) (Or.inl ⟨by rfl, ?_⟩) (by assumption) ?_
            rotate_left
            · (intro w hSw; (try dsimp only at hSw); go_simp; (try with_reducible rfl))
            simp only [Act.put]
            refine wpAnyH_take (i := 5) (oi := _) (v := ?_) rfl (by kernel_rfl) (by kernel_rfl) (by kernel_rfl) (fun _ _ _ h => h) (Or.inl ⟨by rfl, ?_⟩) (by assumption) ?_
            rotate_left
            · (intro w hSw; (try dsimp only at hSw); go_simp; (try with_reducible rfl))
            simp only [Act.put]
            refine wpAnyH_take (i := 6) (oi := _) (v := ?_) rfl (by kernel_rfl) (by kernel_rfl) (by kernel_rfl) (fun _ _ _ h => h) (Or.inl ⟨by rfl, ?_⟩) (by assumption) ?_
            rotate_left
            · (intro w hSw; (try dsimp only at hSw); go_simp; (try with_reducible rfl))
            simp only [Act.put]
            refine wpAnyH_take (i := 7) (oi := _) (v := ?_) rfl (by kernel_rfl) (by kernel_rfl) (by kernel_rfl) (fun _ _ _ h => h) (Or.inl ⟨by rfl, ?_⟩) (by assumption) ?_
            rotate_left
            · (intro w hSw; (try dsimp only at hSw); go_simp; (try with_reducible rfl))
            simp only [Act.put]
            refine wpAnyH_ready (rs := [8]) (by kernel_rfl) (by simp) ?_
            refine AllReadyH.cons (o := _) rfl (fun K hK => ?_) AllReadyH.nil
            go_simp
            refine hK.out _ _ (redo3_grow (bytesGrow _ _) (by assumption)) (fun hHeld2 => ?_)
            clear hK K
            refine wpAnyH_ready (rs := [9]) (by kernel_rfl) (by simp) ?_
            refine AllReadyH.cons (o := _) rfl (fun K hK => ?_) AllReadyH.nil
            go_simp
            refine (rl_store_no HLG.out r HIN.out ?_ _ _ ?_ ?_).mono ?_; (repeat (first | exact Grow.refl _ | exact HGA.out | refine Grow.drew ?_ | refine Grow.drewN ?_ _ | refine Grow.trans ?_ (bytesGrow _ _))); (first | exact hwz | (simp; exact hwz)); (first | exact (bytes_of _ _ (by omega)).1 | exact (bytes_of _ _ (by omega)).1.drew); rintro e w5 ⟨rfl, h5, t5, t6⟩; have hs5 := redo3_turn (r := r) t5 HFS.out.1 HFS.out.2 (by assumption)
            refine hK.out _ _ hs5 (fun hHeld5 => ?_)
            clear hK K
            refine wpAnyH_take (i := 10) (oi := { dst := some 45, op := .binOp .eql 25 (.tmp 44) (.const (.int .i64 0)) 25, type := 4, pos := "ref.go:152", after := #[{ on := 9, ground := .data }], guard := none }) (v := ?_) rfl (by kernel_rfl) (by kernel_rfl) (by kernel_rfl) (fun _ _ _ h => h) (Or.inl ⟨by rfl, ?_⟩) (by assumption) ?_
            rotate_left
            · (intro w hSw; (try dsimp only at hSw); go_simp; (try with_reducible rfl))
            simp only [Act.put, List.setIfInBounds_toArray]
            refine wpAnyH_done (by kernel_rfl) ?_ _
            all_goals
              have H5 := Lib.hid h5
              have HT5 := Lib.hid (HT.out.and t6)
              clear h5 t5 t6 kc hsS
              clear hs5
              have X : RedoIn w1 w5 l x sO L (.int .i64 ((k : Int) + 1)) := ⟨k + 1, by simp, by have := HN.out; omega, by rw [HRK.out, MS.patch, if_neg (by rw [HIN.out]; simp)]; exact H5.out, HT5.out⟩
              have HX := Lib.hid X
              clear X
              go_wp2_with fail
              have e5 : wrap64 ((k : Int) + 1) = (k : Int) + 1 := IntWalk.wrap64_in _ (by omega)
              go_roundw
              case rel => (try rw [e5]); first | exact HX.out | ((repeat apply Exists.intro); exact HX.out) | ((repeat apply Exists.intro); refine ⟨HX.out, ?_⟩; rfl)
              case measure => first | exact measP hlt | exact measPW hlt e5
        · obtain rfl : k = m := by omega
          have HLE := Lib.hid (show sO.patches (L.take k) = sO.patches L by rw [List.take_of_length_le (by rw [← HN.out]; exact Nat.le_refl _)])
          have X : RedoOut w1 wr l x s LL (.int .i64 ((i : Int) + 1)) := ⟨i + 1, by simp, by have := HN0.out; omega, by rw [HST.out, ← HLE.out]; exact HLG.out, HT.out⟩
          have HX := Lib.hid X
          clear X hlt
          go_wp2_with fail
          have e5 : wrap64 ((i : Int) + 1) = (i : Int) + 1 := IntWalk.wrap64_in _ (by omega)
          go_roundw
          case rel => (try rw [e5]); first | exact HX.out | ((repeat apply Exists.intro); exact HX.out) | ((repeat apply Exists.intro); refine ⟨HX.out, ?_⟩; rfl)
          case measure => first | exact measP hilt | exact measPW hilt e5
    · obtain rfl : i = n := by omega
      have h3 := HL1.out
      rw [List.take_of_length_le (by rw [HN0.out]; exact Nat.le_refl _)] at h3
      have H2 := Lib.hid h3
      have c0 := h3.2.1.c3.1
      have HT2 := Lib.hid ((Turn.grow HG1.out x.F).and HT1.out)
      clear h3 hilt
      go_wp2_with fail
      refine (rm_fence H2.out.1).mono ?_
      rintro e w3 ⟨rfl, hP3, t3⟩
      have H3 := Lib.hid (show RL w3 l x (s.redone LL).fence from ⟨hP3, H2.out.2.1.turn t3 H2.out.2.2, H2.out.2.2⟩)
      have HT3 := Lib.hid (HT2.out.and t3)
      clear hP3 t3 c0
      go_wp2_with fail
      refine (rl_clear H3.out).mono ?_
      rintro e w4 ⟨rfl, h4, t4⟩
      have H4 := Lib.hid h4
      have HT4 := Lib.hid (HT3.out.and t4)
      clear h4 t4
      go_wp2_with fail
      go_ret
      exact ⟨ret_int (by rw [← HLL.out, HN0.out]), by rw [MS.redo, ← HLL.out]; exact H4.out, HT4.out⟩
end Go.Proofs.Ytncjfljmnkfghaa

namespace Go.Proofs.Ytncjfljmnkfghaa

theorem putL_eq (bs : List UInt8) : ∀ (S : List UInt8) (i : Nat), i + bs.length ≤ S.length → putL S i bs = S.take i ++ (bs ++ S.drop (i + bs.length)) := by
  induction bs with
  | nil => intro S i _; simp [putL]
  | cons u bs ih =>
    intro S i h
    simp only [List.length_cons] at h
    rw [putL, ih _ _ (by rw [List.length_set]; omega), List.drop_set_of_lt (by omega), show i + 1 + bs.length = i + (u :: bs).length by simp; omega]
    have e : (S.set i u).take (i + 1) = S.take i ++ [u] := by
      rw [List.take_add_one, List.take_set_of_le (Nat.le_refl _), List.getElem?_set_self (by omega)]; rfl
    rw [e]
    simp
theorem putL_get (bs : List UInt8) (S : List UInt8) (i j : Nat) (h : i + bs.length ≤ S.length) : (putL S i bs).getD j 0 = if i ≤ j ∧ j < i + bs.length then bs.getD (j - i) 0 else S.getD j 0 := by
  rw [putL_eq bs S i h]
  simp only [List.getD_eq_getElem?_getD]
  by_cases h1 : j < i
  · rw [List.getElem?_append_left (by rw [List.length_take]; omega), List.getElem?_take_of_lt h1, if_neg (by omega)]
  · rw [List.getElem?_append_right (by rw [List.length_take]; omega), List.length_take, Nat.min_eq_left (by omega)]
    by_cases h2 : j < i + bs.length
    · rw [List.getElem?_append_left (by omega), if_pos (by omega)]
    · rw [List.getElem?_append_right (by omega), if_neg (by omega), List.getElem?_drop, show i + bs.length + (j - i - bs.length) = j by omega]
theorem clrL_get (A : List Bool) (i n k : Nat) (h : (i + n - 1) / 8 < A.length ∨ n = 0) : (clrL A i n).getD k false = if n ≠ 0 ∧ i / 8 ≤ k ∧ k ≤ (i + n - 1) / 8 then false else A.getD k false := by
  induction n with
  | zero => simp [clrL]
  | succ n ih =>
    have h' : (i + n) / 8 < A.length := by rcases h with h | h; exact h; omega
    rw [clrL, getD_set _ _ _ _ (by rw [clrL_length]; exact h')]
    by_cases e : k = (i + n) / 8
    · rw [if_pos e, if_pos (by omega)]
    · rw [if_neg e, ih (by by_cases q : n = 0; exact .inr q; exact .inl (by omega))]
      by_cases q : n = 0
      · subst q; rw [if_neg (by omega), if_neg (by omega)]
      · by_cases q2 : i / 8 ≤ k ∧ k ≤ (i + n - 1) / 8
        · rw [if_pos ⟨q, q2⟩, if_pos (by omega)]
        · rw [if_neg (by omega), if_neg (by omega)]
theorem dirtyB_is {S T : List UInt8} {k : Nat} : dirtyB S T k = false ↔ ∀ j, 8 * k ≤ j → j < 8 * k + 8 → S.getD j 0 = T.getD j 0 := by
  constructor
  · intro h j h1 h2
    refine Decidable.byContradiction fun q => ?_
    unfold dirtyB at h
    have := List.any_eq_false.1 h (j - 8 * k) (by simp; omega)
    rw [show 8 * k + (j - 8 * k) = j by omega] at this
    simp at this
    exact q this
  · intro h
    unfold dirtyB
    rw [List.any_eq_false]
    intro j hj
    have := h (8 * k + j) (by omega) (by simp at hj; omega)
    rw [this]; simp

/-- The lengths are right; what is seen and does not last is on its way. -/
structure MS.ok (s : MS) : Prop where
  S : s.S.length = 1024
  T : s.T.length = 1024
  A : s.A.length = 128
def MS.cov (s : MS) : Prop := ∀ k, k < 128 → dirtyB s.S s.T k = true → s.A.getD k false = true
/-- All that is seen lasts, and nothing is on its way. -/
def MS.still (s : MS) : Prop := s.S = s.T
theorem MS.still_cov {s : MS} (h : s.still) : s.cov := by
  intro k _ hd
  rw [dirtyB_is.2 (fun j _ _ => by rw [h])] at hd
  cases hd
theorem MS.ok.ok_store {s : MS} (h : s.ok) (a : Int) (bs : List UInt8) : (s.store a bs).ok := by
  refine ⟨by rw [MS.store_S]; exact h.S, h.T, ?_⟩
  unfold MS.store storeA
  split
  · rw [clrL_length]; exact h.A
  · exact h.A
theorem MS.ok.ok_flush {s : MS} (h : s.ok) (a n : Int) : (s.flush a n).ok := by
  refine ⟨h.S, h.T, ?_⟩
  unfold MS.flush flushU
  split
  · rw [flushA_length]; exact h.A
  · exact h.A
theorem MS.ok.ok_fence {s : MS} (h : s.ok) : s.fence.ok := ⟨h.S, by rw [MS.fence, mixL_length]; exact h.T, by rw [MS.fence, List.length_replicate]⟩
theorem MS.ok.ok_keep {s : MS} (h : s.ok) (a : Int) (bs : List UInt8) : (s.keep a bs).ok := ((h.ok_store a bs).ok_flush a bs.length).ok_fence
theorem MS.ok.ok_crash {s : MS} (h : s.ok) (pk : List Int) : (s.crash pk).ok := ⟨by rw [MS.crash, MS.mixed, mixL_length]; exact h.T, by rw [MS.crash, MS.mixed, mixL_length]; exact h.T, by rw [MS.crash, List.length_replicate]⟩
theorem MS.fence_still {s : MS} (h : s.ok) (hc : s.cov) : s.fence.still := by
  show s.S = mixL s.S s.T fun k => s.A.getD k false
  refine ext_getD (by rw [mixL_length, h.S, h.T]) fun j hj => ?_
  rw [h.S] at hj
  rw [mixL_get _ _ _ _ (by rw [h.T]; exact hj)]
  cases hA : s.A.getD (j / 8) false with
  | true => rfl
  | false =>
    rw [if_neg (by simp)]
    cases hd : dirtyB s.S s.T (j / 8) with
    | true => rw [hc (j / 8) (by omega) hd] at hA; cases hA
    | false => exact dirtyB_is.1 hd j (by omega) (by omega)
theorem MS.crash_still (s : MS) (pk : List Int) : (s.crash pk).still := rfl
theorem MS.store_in {s : MS} {a : Int} {bs : List UInt8} (h : inW 1024 a bs.length = true) : s.store a bs = ⟨putL s.S a.toNat bs, s.T, clrL s.A a.toNat bs.length⟩ := by
  unfold MS.store storeS storeA
  rw [show inW (8 * 128) a bs.length = true from h]
  rfl
theorem MS.store_out {s : MS} {a : Int} {bs : List UInt8} (h : inW 1024 a bs.length = false) : s.store a bs = s := by
  unfold MS.store storeS storeA
  rw [show inW (8 * 128) a bs.length = false from h]
  rfl
theorem MS.flush_in {s : MS} {a n : Int} (h : inW 1024 a n = true) : s.flush a n = ⟨s.S, s.T, flushA s.S s.T s.A (lineB a.toNat n.toNat)⟩ := by
  unfold MS.flush flushU
  rw [show inW (8 * 128) a n = true from h]
  rfl
theorem MS.flush_out {s : MS} {a n : Int} (h : inW 1024 a n = false) : s.flush a n = s := by
  unfold MS.flush flushU
  rw [show inW (8 * 128) a n = false from h]
  rfl
/-- What is stored and flushed is on its way. -/
theorem MS.put_cov {s : MS} (h : s.ok) (hc : s.cov) {a : Int} {bs : List UInt8} (hin : inW 1024 a bs.length = true) : ((s.store a bs).flush a bs.length).cov := by
  obtain ⟨h1, -, h3⟩ := inW_iff.1 hin
  obtain ⟨i, rfl⟩ : ∃ i : Nat, a = (i : Int) := ⟨a.toNat, by omega⟩
  rw [MS.store_in hin, MS.flush_in hin]
  intro k hk hd
  have hS := h.S
  have hA := h.A
  simp only [Int.toNat_natCast] at hd ⊢
  rw [flushA_get _ _ _ _ _ (by rw [clrL_length, hA]; exact hk), hd, Bool.and_true]
  have hpos : bs.length = 0 ∨ 0 < bs.length := by omega
  rw [clrL_get _ _ _ _ (by rw [hA]; rcases hpos with q | q; exact .inr q; exact .inl (by omega))]
  by_cases hin2 : bs.length ≠ 0 ∧ i / 8 ≤ k ∧ k ≤ (i + bs.length - 1) / 8
  · rw [if_pos hin2, Bool.false_or]
    simp only [lineB, decide_eq_true_eq]
    omega
  · rw [if_neg hin2]
    rw [hc k hk, Bool.true_or]
    cases hd2 : dirtyB s.S s.T k with
    | true => rfl
    | false =>
      rw [dirtyB_is.2] at hd
      · cases hd
      intro j j1 j2
      rw [putL_get _ _ _ _ (by rw [hS]; omega), if_neg (by omega)]
      exact dirtyB_is.1 hd2 j j1 j2
theorem MS.keep_still {s : MS} (h : s.ok) (hc : s.cov) (a : Int) (bs : List UInt8) : (s.keep a bs).still := by
  cases hin : inW 1024 a bs.length with
  | true => exact MS.fence_still ((h.ok_store a bs).ok_flush a bs.length) (MS.put_cov h hc hin)
  | false =>
    unfold MS.keep
    rw [MS.store_out hin, MS.flush_out hin]
    exact MS.fence_still h hc
theorem MS.keep_S {s : MS} {a : Int} {bs : List UInt8} (hin : inW 1024 a bs.length = true) : (s.keep a bs).S = putL s.S a.toNat bs := by
  unfold MS.keep
  rw [MS.store_in hin]
  rfl
theorem MS.patch_cov {s : MS} (h : s.ok) (hc : s.cov) (p : PT) : (s.patch p).ok ∧ (s.patch p).cov := by
  unfold MS.patch
  cases hin : inW 1024 p.pos p.dat.size with
  | true =>
    rw [if_pos rfl, ← PT.txt_length p]
    exact ⟨(h.ok_store _ _).ok_flush _ _, MS.put_cov h hc (by rw [PT.txt_length]; exact hin)⟩
  | false => rw [if_neg (by simp)]; exact ⟨h, hc⟩
theorem MS.patches_cov (L : List PT) : ∀ {s : MS}, s.ok → s.cov → (s.patches L).ok ∧ (s.patches L).cov := by
  induction L with
  | nil => intro s h hc; exact ⟨h, hc⟩
  | cons p L ih => intro s h hc; exact ih (MS.patch_cov h hc p).1 (MS.patch_cov h hc p).2
theorem MS.redone_cov (R : List (List PT)) : ∀ {s : MS}, s.ok → s.cov → (s.redone R).ok ∧ (s.redone R).cov := by
  induction R with
  | nil => intro s h hc; exact ⟨h, hc⟩
  | cons L R ih => intro s h hc; exact ih (MS.patches_cov L h hc).1 (MS.patches_cov L h hc).2

/-- Patches laid over bytes. -/
def patS (S : List UInt8) (p : PT) : List UInt8 := if inW 1024 p.pos p.dat.size then putL S p.pos.toNat p.txt else S
theorem patch_S (s : MS) (p : PT) : (s.patch p).S = patS s.S p := by
  unfold MS.patch patS
  cases hin : inW 1024 p.pos p.dat.size with
  | true => rw [if_pos rfl, if_pos rfl, MS.store_in (by rw [PT.txt_length]; exact hin)]; rfl
  | false => rw [if_neg (by simp), if_neg (by simp)]
theorem patches_S (L : List PT) : ∀ s : MS, (s.patches L).S = L.foldl patS s.S := by
  induction L with
  | nil => intro s; rfl
  | cons p L ih => intro s; show ((s.patch p).patches L).S = _; rw [ih, patch_S]; rfl
theorem redone_S (R : List (List PT)) : ∀ s : MS, (s.redone R).S = R.flatten.foldl patS s.S := by
  induction R with
  | nil => intro s; rfl
  | cons L R ih => intro s; show ((s.patches L).redone R).S = _; rw [ih, patches_S]; simp
theorem redo_is {s : MS} (h : s.ok) (hc : s.cov) : s.redo.ok ∧ s.redo.still ∧ s.redo.S = putL ((lgL s.S).flatten.foldl patS s.S) 512 (List.replicate 8 0) := by
  have h1 := MS.redone_cov (lgL s.S) h hc
  have h2 := MS.ok.ok_fence h1.1
  have h3 := MS.still_cov (MS.fence_still h1.1 h1.2)
  refine ⟨MS.ok.ok_keep h2 _ _, MS.keep_still h2 h3 _ _, ?_⟩
  rw [MS.redo, MS.wipe, MS.keep_S (by simp [inW]), ← redone_S]
  rfl
theorem lgE_wiped {S : List UInt8} (h : S.length = 1024) : lgE (putL S 512 (List.replicate 8 0)) = 0 := by
  have e := putL_eq (List.replicate 8 0) S 512 (by simp [h])
  have g := get_mid (bs := putL S 512 (List.replicate 8 0)) (p := S.take 512) (q := S.drop 520) (n := 0) (a := 512) (wd := 8) (by rw [e]; rfl) (by simp [h]) (by decide) (by decide)
  have g1 : getN (putL S 512 (List.replicate 8 0)) 512 8 = 0 := g.1
  rw [lgE, g1]
  rfl

/-- A record that is appended is the last of the log's. -/
theorem app_log {S : List UInt8} {L : List PT} (h : S.length = 1024) (hm : mayP L = true) (hU : lgU S + (encP L).length ≤ 504) :
    lgL (putL (putL S (520 + lgU S) (encP L)) 512 (leB (lgU S + (encP L).length) 8)) = lgL S ++ [L] ∧ lgU (putL (putL S (520 + lgU S) (encP L)) 512 (leB (lgU S + (encP L).length) 8)) = lgU S + (encP L).length := by
  obtain ⟨U, hUU⟩ : ∃ U, U = lgU S := ⟨_, rfl⟩
  obtain ⟨b, hb⟩ : ∃ b, b = encP L := ⟨_, rfl⟩
  rw [← hUU, ← hb] at hU ⊢
  have hE := lgB_length h
  have hUE : U ≤ lgE S := by have := (rcU_bound (lgB S)).1; rw [hE] at this; rw [hUU]; exact this
  have hE5 := lgE_le S
  have e1 := putL_eq b S (520 + U) (by omega)
  have l1 : (putL S (520 + U) b).length = 1024 := by rw [putL_length]; exact h
  have e2 := putL_eq (leB (U + b.length) 8) (putL S (520 + U) b) 512 (by rw [leB_length]; omega)
  rw [leB_length] at e2
  obtain ⟨S2, hS2⟩ : ∃ S2, S2 = putL (putL S (520 + U) b) 512 (leB (U + b.length) 8) := ⟨_, rfl⟩
  rw [← hS2] at e2 ⊢
  have g := get_mid (bs := S2) (p := (putL S (520 + U) b).take 512) (q := (putL S (520 + U) b).drop 520) (n := ((U + b.length : Nat) : Int)) (a := 512) (wd := 8) (by rw [e2]; rfl) (by rw [List.length_take]; omega) (by simp [fitsB]; omega) (by omega)
  have g1 : getN S2 512 8 = ((U + b.length : Nat) : Int) := g.1
  have hEE : lgE S2 = U + b.length := by
    rw [lgE, g1, if_neg (by omega)]; omega
  have hd : S2.drop 520 = (putL S (520 + U) b).drop 520 := by
    rw [e2, ← List.append_assoc, List.drop_left' (by rw [List.length_append, List.length_take, leB_length]; omega)]
  have hB : lgB S2 = (lgB S).take U ++ b := by
    rw [lgB, hEE, hd, e1, List.drop_append_of_le_length (by rw [List.length_take]; omega), List.drop_take, show 520 + U - 520 = U by omega, ← List.append_assoc, List.take_left' (by rw [List.length_append, List.length_take, List.length_drop]; omega), lgB, List.take_take, Nat.min_eq_left hUE]
  have r1 := rc_app _ (lgB S) b (Nat.le_refl _)
  have r2 := rc_rec hm []
  rw [← hb, List.append_nil, rc_nil.1, rc_nil.2] at r2
  have hU2 : rcU (lgB S) = U := by rw [hUU]; rfl
  rw [hU2] at r1
  refine ⟨?_, ?_⟩
  · rw [lgL, hB, r1.1, r2.1]; rfl
  · rw [lgU, hB, r1.2, r2.2]; rfl
theorem apE_iff {S : List UInt8} {L : List PT} : apE S L = 0 ↔ mayP L = true ∧ lgU S + (encP L).length ≤ 504 := by
  unfold apE
  cases mayP L with
  | true =>
    rw [if_pos rfl]
    by_cases h : 504 < lgU S + (encP L).length
    · rw [if_pos h]; simp; omega
    · rw [if_neg h]; simp; omega
  | false => simp
theorem append_is {s : MS} (h : s.ok) (hc : s.cov) {L : List PT} (hE : apE s.S L = 0) : (s.append L).ok ∧ (s.append L).still ∧ lgL (s.append L).S = lgL s.S ++ [L] ∧ (s.append L).S = putL (putL s.S (520 + lgU s.S) (encP L)) 512 (leB (lgU s.S + (encP L).length) 8) := by
  obtain ⟨h1, h2⟩ := apE_iff.1 hE
  have hin1 : inW 1024 ((520 + lgU s.S : Nat) : Int) (encP L).length = true := by simp [inW]; omega
  have hin2 : inW 1024 512 ((leB (lgU s.S + (encP L).length) 8).length : Nat) = true := by rw [leB_length]; simp [inW]
  have e1 : (s.append L).S = putL (putL s.S (520 + lgU s.S) (encP L)) 512 (leB (lgU s.S + (encP L).length) 8) := by
    rw [MS.append, if_pos hE, MS.keep_S hin2, MS.keep_S hin1]; rfl
  refine ⟨?_, ?_, ?_, e1⟩
  · rw [MS.append, if_pos hE]; exact MS.ok.ok_keep (MS.ok.ok_keep h _ _) _ _
  · rw [MS.append, if_pos hE]; exact MS.keep_still (MS.ok.ok_keep h _ _) (MS.still_cov (MS.keep_still h hc _ _)) _ _
  · rw [e1]; exact (app_log h.S h1 h2).1
end Go.Proofs.Ytncjfljmnkfghaa

namespace Go.Proofs.Ytncjfljmnkfghaa
open Go.RowKit

def mayLG (n a s : Int) : Bool := decide (0 ≤ a ∧ a % 64 = 0 ∧ 128 ≤ s ∧ s ≤ 65536 ∧ s % 64 = 0 ∧ a ≤ n ∧ s ≤ n - a)
theorem mayLG_iff {n a s : Int} : mayLG n a s = true ↔ 0 ≤ a ∧ a % 64 = 0 ∧ 128 ≤ s ∧ s ≤ 65536 ∧ s % 64 = 0 ∧ a ≤ n ∧ s ≤ n - a := by simp [mayLG]
theorem tm64 {a : Int} (h : 0 ≤ a) : Int.tmod a 64 = a % 64 := Int.tmod_eq_emod_of_nonneg h
theorem ne_f {a : Int} (h : a = 0) : (a != 0) = false := by rw [h]; rfl
theorem ne_t {a : Int} (h : a ≠ 0) : (a != 0) = true := by rw [bne_iff_ne]; exact h
theorem eq_f {a : Int} (h : a ≠ 0) : (a == 0) = false := by rw [beq_eq_false_iff_ne]; exact h
theorem eq_t {a : Int} (h : a = 0) : (a == 0) = true := by rw [h]; rfl

theorem pl_new_nil (a s : Int) (w : World) : Calls Try.prog 21 #[.pointer none, .int .i64 a, .int .i64 s] w fun e w' => e = .returned (.pointer none) ∧ w = w' := by
  go_enter Try.func21, Try.ntmps21
  go_wp2_with fail
  go_ret
  exact ⟨rfl, rfl⟩

set_option maxHeartbeats 2000000 in
theorem pl_new {w : World} {x : MB} {N : Nat} {S T : List UInt8} {A : List Bool} (h : PM w x N S T A) (a s : Int) :
    Calls Try.prog 21 #[.pointer (some ⟨x.p, 0, none⟩), .int .i64 a, .int .i64 s] w fun e w' => (mayLG ((N : Int) * 8) a s = false ∧ e = .returned (.pointer none) ∧ w = w') ∨ (mayLG ((N : Int) * 8) a s = true ∧ ∃ l, e = .returned (.pointer (some ⟨l, 0, none⟩)) ∧ w.heap.size ≤ l ∧ Blk w' l [.pointer (some ⟨x.p, 0, none⟩), .int .i64 a, .int .i64 s] ∧ Grow w w') := by
  obtain ⟨hN1, hN2, hN3⟩ := h.bound
  have H := Lib.hid h
  clear h
  by_cases q0 : a < 0
  · have HM := Lib.hid (show mayLG ((N : Int) * 8) a s = false by rw [Bool.eq_false_iff]; intro m; have := mayLG_iff.1 m; omega)
    have y0 : decide (a < 0) = true := decide_eq_true q0
    clear hN1 hN2 hN3 q0
    go_enter Try.func21, Try.ntmps21
    go_wp2_with fail
    go_ret
    exact .inl ⟨HM.out, rfl, rfl⟩
  have z00 : decide (a < 0) = false := decide_eq_false q0
  by_cases q1 : s < 128
  · have HM := Lib.hid (show mayLG ((N : Int) * 8) a s = false by rw [Bool.eq_false_iff]; intro m; have := mayLG_iff.1 m; omega)
    have y0 : decide (s < 128) = true := decide_eq_true q1
    clear hN1 hN2 hN3 q0 q1
    go_enter Try.func21, Try.ntmps21
    go_wp2_with fail
    go_ret
    exact .inl ⟨HM.out, rfl, rfl⟩
  have z10 : decide (s < 128) = false := decide_eq_false q1
  by_cases q2 : 65536 < s
  · have HM := Lib.hid (show mayLG ((N : Int) * 8) a s = false by rw [Bool.eq_false_iff]; intro m; have := mayLG_iff.1 m; omega)
    have y0 : decide (65536 < s) = true := decide_eq_true q2
    clear hN1 hN2 hN3 q0 q1 q2
    go_enter Try.func21, Try.ntmps21
    go_wp2_with fail
    go_ret
    exact .inl ⟨HM.out, rfl, rfl⟩
  have z20 : decide (65536 < s) = false := decide_eq_false q2
  by_cases q3 : a % 64 ≠ 0
  · have HM := Lib.hid (show mayLG ((N : Int) * 8) a s = false by rw [Bool.eq_false_iff]; intro m; have := mayLG_iff.1 m; omega)
    have y0 : (Int.tmod a 64 != 0) = true := by rw [tm64 (by omega)]; exact ne_t q3
    have y1 : (a % 64 != 0) = true := ne_t q3
    clear hN1 hN2 hN3 q0 q1 q2 q3
    go_enter Try.func21, Try.ntmps21
    go_wp2_with fail
    go_ret
    exact .inl ⟨HM.out, rfl, rfl⟩
  have z30 : (Int.tmod a 64 != 0) = false := by rw [tm64 (by omega)]; exact ne_f (Decidable.byContradiction q3)
  have z31 : (a % 64 != 0) = false := ne_f (Decidable.byContradiction q3)
  by_cases q4 : s % 64 ≠ 0
  · have HM := Lib.hid (show mayLG ((N : Int) * 8) a s = false by rw [Bool.eq_false_iff]; intro m; have := mayLG_iff.1 m; omega)
    have y0 : (Int.tmod s 64 != 0) = true := by rw [tm64 (by omega)]; exact ne_t q4
    have y1 : (s % 64 != 0) = true := ne_t q4
    clear hN1 hN2 hN3 q0 q1 q2 q3 q4
    go_enter Try.func21, Try.ntmps21
    go_wp2_with fail
    go_ret
    exact .inl ⟨HM.out, rfl, rfl⟩
  have z40 : (Int.tmod s 64 != 0) = false := by rw [tm64 (by omega)]; exact ne_f (Decidable.byContradiction q4)
  have z41 : (s % 64 != 0) = false := ne_f (Decidable.byContradiction q4)
  have g1 : 0 ≤ a := by omega
  have g2 : 128 ≤ s := by omega
  have g3 : s ≤ 65536 := by omega
  by_cases q5 : (N : Int) * 8 - s < a
  · have HM := Lib.hid (show mayLG ((N : Int) * 8) a s = false by rw [Bool.eq_false_iff]; intro m; have := mayLG_iff.1 m; omega)
    have y0 : decide ((N : Int) * 8 - s < a) = true := decide_eq_true q5
    clear hN1 q0 q1 q2 q3 q4 q5
    go_enter Try.func21, Try.ntmps21
    go_wp2_with fail
    refine (pm_size H.out).mono ?_
    rintro e w' ⟨rfl, rfl⟩
    go_wp2_with fail
    go_ret
    exact .inl ⟨HM.out, rfl, rfl⟩
  · have HM := Lib.hid (show mayLG ((N : Int) * 8) a s = true from mayLG_iff.2 ⟨by omega, by omega, by omega, by omega, by omega, by omega, by omega⟩)
    have y0 : decide ((N : Int) * 8 - s < a) = false := decide_eq_false q5
    clear hN1 q0 q1 q2 q3 q4 q5
    go_enter Try.func21, Try.ntmps21
    go_wp2_with fail
    refine (pm_size H.out).mono ?_
    rintro e w' ⟨rfl, rfl⟩
    go_wp2_with fail
    go_ret
    exact .inr ⟨HM.out, w.heap.size, rfl, Nat.le_refl _, Blk.new w _ _ _ (0, 0) rfl, (Grow.refl w).alloc _⟩

set_option maxHeartbeats 2000000 in
theorem rl_may (n a s : Int) (hn : n ≤ 10000000) (hn0 : -9223372036854775808 ≤ n) (w : World) :
    Calls Try.prog 22 #[.int .i64 n, .int .i64 a, .int .i64 s] w fun e w' => e = .returned (.bool (mayLG n a s)) ∧ w = w' := by
  by_cases q0 : a < 0
  · have HM := Lib.hid (show mayLG n a s = false by rw [Bool.eq_false_iff]; intro m; have := mayLG_iff.1 m; omega)
    have y0 : decide (0 ≤ a) = false := decide_eq_false (by omega)
    clear hn hn0 q0
    go_enter Try.func22, Try.ntmps22
    go_wp2_with fail
    go_ret
    exact ⟨by rw [HM.out]; rfl, rfl⟩
  have z00 : decide (0 ≤ a) = true := decide_eq_true (by omega)
  by_cases q1 : a % 64 ≠ 0
  · have HM := Lib.hid (show mayLG n a s = false by rw [Bool.eq_false_iff]; intro m; have := mayLG_iff.1 m; omega)
    have y0 : (Int.tmod a 64 == 0) = false := by rw [tm64 (by omega)]; exact eq_f q1
    have y1 : (a % 64 == 0) = false := eq_f q1
    clear hn hn0 q0 q1
    go_enter Try.func22, Try.ntmps22
    go_wp2_with fail
    go_ret
    exact ⟨by rw [HM.out]; rfl, rfl⟩
  have z10 : (Int.tmod a 64 == 0) = true := by rw [tm64 (by omega)]; exact eq_t (Decidable.byContradiction q1)
  have z11 : (a % 64 == 0) = true := eq_t (Decidable.byContradiction q1)
  by_cases q2 : s < 128
  · have HM := Lib.hid (show mayLG n a s = false by rw [Bool.eq_false_iff]; intro m; have := mayLG_iff.1 m; omega)
    have y0 : decide (128 ≤ s) = false := decide_eq_false (by omega)
    clear hn hn0 q0 q1 q2
    go_enter Try.func22, Try.ntmps22
    go_wp2_with fail
    go_ret
    exact ⟨by rw [HM.out]; rfl, rfl⟩
  have z20 : decide (128 ≤ s) = true := decide_eq_true (by omega)
  by_cases q3 : 65536 < s
  · have HM := Lib.hid (show mayLG n a s = false by rw [Bool.eq_false_iff]; intro m; have := mayLG_iff.1 m; omega)
    have y0 : decide (s ≤ 65536) = false := decide_eq_false (by omega)
    clear hn hn0 q0 q1 q2 q3
    go_enter Try.func22, Try.ntmps22
    go_wp2_with fail
    go_ret
    exact ⟨by rw [HM.out]; rfl, rfl⟩
  have z30 : decide (s ≤ 65536) = true := decide_eq_true (by omega)
  by_cases q4 : s % 64 ≠ 0
  · have HM := Lib.hid (show mayLG n a s = false by rw [Bool.eq_false_iff]; intro m; have := mayLG_iff.1 m; omega)
    have y0 : (Int.tmod s 64 == 0) = false := by rw [tm64 (by omega)]; exact eq_f q4
    have y1 : (s % 64 == 0) = false := eq_f q4
    clear hn hn0 q0 q1 q2 q3 q4
    go_enter Try.func22, Try.ntmps22
    go_wp2_with fail
    go_ret
    exact ⟨by rw [HM.out]; rfl, rfl⟩
  have z40 : (Int.tmod s 64 == 0) = true := by rw [tm64 (by omega)]; exact eq_t (Decidable.byContradiction q4)
  have z41 : (s % 64 == 0) = true := eq_t (Decidable.byContradiction q4)
  by_cases q5 : n < a
  · have HM := Lib.hid (show mayLG n a s = false by rw [Bool.eq_false_iff]; intro m; have := mayLG_iff.1 m; omega)
    have y0 : decide (a ≤ n) = false := decide_eq_false (by omega)
    clear hn hn0 q0 q1 q2 q3 q4 q5
    go_enter Try.func22, Try.ntmps22
    go_wp2_with fail
    go_ret
    exact ⟨by rw [HM.out]; rfl, rfl⟩
  have z50 : decide (a ≤ n) = true := decide_eq_true (by omega)
  have g1 : 0 ≤ a := by omega
  have g2 : a ≤ n := by omega
  have HM := Lib.hid (show decide (s ≤ n - a) = mayLG n a s by rw [mayLG]; congr 1; apply propext; constructor <;> intro m <;> (try refine ⟨?_, ?_, ?_, ?_, ?_, ?_, ?_⟩) <;> omega)
  clear q0 q1 q2 q3 q4 q5
  go_enter Try.func22, Try.ntmps22
  go_wp2_with fail
  go_ret
  exact ⟨by rw [← HM.out]; rfl, rfl⟩
end Go.Proofs.Ytncjfljmnkfghaa
