/- commonsref08.Log: Redo. commonsref03.New. commonslaw08: begin, like. few, little: the first patches, cut. No statement of the seat is proved here. -/
import Derived.Test.YtlinlmimakealaaZ15
import Derived.Test.YtlinlmimakealaaZ14
import Derived.Test.YtlinlmimakealaaZ05
import Derived.Test.YtlinlmimakealaaZ06
import Derived.Test.YtlinlmimakealaaZ13
import Derived.Test.YtlinlmimakealaaZ08
import Derived.Test.YtlinlmimakealaaZ07
import Derived.Test.YtlinlmimakealaaZ11
namespace Go.Proofs.Ytlinlmimakealaa
open Go.RowKit

section
variable {w w' : World} {l p bx : Nat} {r : PT} {F : Nat → Prop}
theorem redo3_grow (g : Grow w w') (h : w.cell? ⟨l, 0, none⟩ = some (.pointer (some ⟨p, 0, none⟩)) ∧ w.cell? ⟨bx, 0, none⟩ = some (.int .i64 r.pos) ∧ w.cell? ⟨bx, 1, none⟩ = some (.string r.dat)) : w'.cell? ⟨l, 0, none⟩ = some (.pointer (some ⟨p, 0, none⟩)) ∧ w'.cell? ⟨bx, 0, none⟩ = some (.int .i64 r.pos) ∧ w'.cell? ⟨bx, 1, none⟩ = some (.string r.dat) := ⟨g.cell h.1, g.cell h.2.1, g.cell h.2.2⟩
theorem redo3_turn (t : Turn F w w') (h2 : ¬ F l) (h3 : ¬ F bx) (h : w.cell? ⟨l, 0, none⟩ = some (.pointer (some ⟨p, 0, none⟩)) ∧ w.cell? ⟨bx, 0, none⟩ = some (.int .i64 r.pos) ∧ w.cell? ⟨bx, 1, none⟩ = some (.string r.dat)) : w'.cell? ⟨l, 0, none⟩ = some (.pointer (some ⟨p, 0, none⟩)) ∧ w'.cell? ⟨bx, 0, none⟩ = some (.int .i64 r.pos) ∧ w'.cell? ⟨bx, 1, none⟩ = some (.string r.dat) := ⟨t.cell' h.1 h2, t.cell' h.2.1 h3, t.cell' h.2.2 h3⟩
end
theorem rl_store_ok {w wz : World} {l : Nat} {x : MB} {s : MS} (h : RL w l x s) (r : PT) (hin : inW 1024 r.pos r.dat.size = true) (g : Grow w wz) (k c : Nat) (hk : w.heap.size ≤ k) (hs : Sl wz (some ⟨k, 0, none⟩) r.dat.size r.txt) :
    Calls Try.prog 51 #[.pointer (some ⟨x.p, 0, none⟩), .int .i64 r.pos, .slice (some ⟨k, 0, none⟩) r.dat.size c] wz fun e w' => e = .returned (.int .i64 0) ∧ RL w' l x (s.store r.pos r.txt) ∧ Turn x.F wz w' ∧ Turn x.F w w' := by
  refine (rm_storeU (h.1.keep g) hs (fun _ p hp q => ?_) r.pos).mono ?_
  · injection hp with hp
    subst hp
    have q' : x.F k := q
    have := h.1.lt k q'
    omega
  rintro e w' ⟨rfl, h5, t5⟩
  rw [show inW (8 * 128) r.pos r.dat.size = true from hin]
  have hl : r.txt.length = r.dat.size := hs.1
  refine ⟨rfl, ⟨?_, (h.2.1.keep g).turn t5 h.2.2, h.2.2⟩, t5, (Turn.grow g _).and t5⟩
  simp only [MS.store]
  rw [hl]
  exact h5
theorem rl_store_no {w wz : World} {l : Nat} {x : MB} {s : MS} (h : RL w l x s) (r : PT) (hin : inW 1024 r.pos r.dat.size = false) (g : Grow w wz) (k c : Nat) (hk : w.heap.size ≤ k) (hs : Sl wz (some ⟨k, 0, none⟩) r.dat.size r.txt) :
    Calls Try.prog 51 #[.pointer (some ⟨x.p, 0, none⟩), .int .i64 r.pos, .slice (some ⟨k, 0, none⟩) r.dat.size c] wz fun e w' => e = .returned (.int .i64 1) ∧ RL w' l x s ∧ Turn x.F wz w' ∧ Turn x.F w w' := by
  refine (rm_storeU (h.1.keep g) hs (fun _ p hp q => ?_) r.pos).mono ?_
  · injection hp with hp
    subst hp
    have q' : x.F k := q
    have := h.1.lt k q'
    omega
  rintro e w' ⟨rfl, h5, t5⟩
  rw [show inW (8 * 128) r.pos r.dat.size = false from hin]
  have hl : r.txt.length = r.dat.size := hs.1
  refine ⟨rfl, ⟨?_, (h.2.1.keep g).turn t5 h.2.2, h.2.2⟩, t5, (Turn.grow g _).and t5⟩
  have e := store_no (s := s) hin
  rw [← e]
  simp only [MS.store]
  rw [hl]
  exact h5
theorem rl_flush_at {w wz : World} {l : Nat} {x : MB} {s : MS} (h : RL w l x s) (r : PT) (g : Grow w wz) :
    Calls Try.prog 79 #[.pointer (some ⟨x.p, 0, none⟩), .int .i64 r.pos, .int .i64 (r.dat.size : Nat)] wz fun e w' => ∃ er, e = .returned (.int .i64 er) ∧ RL w' l x (s.flush r.pos r.dat.size) ∧ Turn x.F wz w' ∧ Turn x.F w w' := by
  refine (rm_flushU (h.1.keep g) r.pos (r.dat.size : Nat)).mono ?_
  rintro e w' ⟨rfl, h5, t5⟩
  exact ⟨_, rfl, ⟨h5, (h.2.1.keep g).turn t5 h.2.2, h.2.2⟩, t5, (Turn.grow g _).and t5⟩

def RedoIn (w wr : World) (l : Nat) (x : MB) (s : MS) (L : List PT) (t : Value) : Prop := ∃ k : Nat, t = .int .i64 (k : Int) ∧ k ≤ L.length ∧ RL wr l x (s.patches (L.take k)) ∧ Turn x.F w wr
def RedoOut (w wr : World) (l : Nat) (x : MB) (s : MS) (LL : List (List PT)) (t : Value) : Prop := ∃ i : Nat, t = .int .i64 (i : Int) ∧ i ≤ LL.length ∧ RL wr l x (s.redone (LL.take i)) ∧ Turn x.F w wr

set_option maxHeartbeats 8000000 in
set_option maxRecDepth 8000 in
theorem rl_redo {w : World} {l : Nat} {x : MB} {s : MS} (h : RL w l x s) :
    Calls Try.prog 69 #[.pointer (some ⟨l, 0, none⟩)] w fun e w' => e = .returned (.int .i64 ((lgL s.S).length : Nat)) ∧ RL w' l x s.redo ∧ Turn x.F w w' := by
  have H := Lib.hid h
  have HF := Lib.hid (recs_few ⟨s.S, s.T, s.A⟩ h.lenS)
  have HLT := Lib.hid h.1.lt
  clear h
  go_enter Try.func69, Try.ntmps69
  go_wp2_with fail
  refine (rl_read H.out).mono ?_
  rintro e w1 ⟨v, R, rfl, how, hRL, g1⟩
  have hRl : R.length = (lgL s.S).length := by rw [← hRL, List.length_map]
  have hRn : R.length ≤ 63 := by rw [hRl]; exact HF.out
  obtain ⟨A, c, rfl, -, -⟩ := how.rv (by omega)
  obtain ⟨n, hn⟩ : ∃ n, n = R.length := ⟨_, rfl⟩
  obtain ⟨LL, hLL⟩ : ∃ LL, LL = lgL s.S := ⟨_, rfl⟩
  rw [← hn] at hRn how ⊢
  have HN0 := Lib.hid (show LL.length = n by rw [hLL, hn, hRl])
  have HOW := Lib.hid how
  have HRL := Lib.hid hRL
  have HLL := Lib.hid hLL
  have HNR := Lib.hid hn
  have H1 := Lib.hid (H.out.keep g1)
  have HG1 := Lib.hid g1
  clear how hRL hRl hn hLL g1
  go_wp2_with fail
  go_loopw [5] (fun t wr => RedoOut w1 wr l x s LL t) (fun t _ => n - (intOf t).toNat)
  case atStart => exact ⟨0, by simp, Nat.zero_le _, H1.out, Turn.refl _ _⟩
  case round =>
    obtain ⟨i, rfl, hi, hlg, ht⟩ := hrel
    have HL1 := Lib.hid hlg
    have HT1 := Lib.hid ht
    have hi' : i ≤ n := by have := HN0.out; omega
    clear hlg ht hi
    by_cases hilt : i < n
    · obtain ⟨A', c', e', -, hrv⟩ := HOW.out.rv (by have := HNR.out; omega)
      injection e' with e1 e2 e3
      subst e1
      rw [← HNR.out] at hrv
      obtain ⟨b, o, rw0, hri, rfl, -, cr, op⟩ := hrv.at_ hilt
      have hLi : LL[i]? = some rw0.L := by
        have h1 : (R.map RW.L)[i]? = some rw0.L := by rw [List.getElem?_map, hri]; rfl
        rw [HRL.out, ← HLL.out] at h1
        exact h1
      have HST := Lib.hid (redone_step (s := s) hLi)
      have hfew := rcL_few _ (lgB s.S) (Nat.le_refl _) rw0.L (by have := List.mem_of_getElem? hLi; rw [HLL.out] at this; exact this)
      obtain ⟨u, L⟩ := rw0
      simp only at cr op HST hfew
      have hmem := List.mem_of_getElem? hri
      have opw := HOW.out.2.1 _ hmem
      simp only at opw
      obtain ⟨Ai, ci, rfl, -, hrp⟩ := op.rp (by have := hfew.1; omega)
      obtain ⟨m, hm⟩ : ∃ m, m = L.length := ⟨_, rfl⟩
      rw [← hm] at cr opw hrp
      have hL : m ≤ 64 := by rw [hm]; exact hfew.1
      have HN := Lib.hid hm
      have HWW := Lib.hid hfew.2
      have HCR := Lib.hid cr
      have HRP := Lib.hid hrp
      have hbF : ¬ x.F b := fun q => by have := HLT.out b q; have := (World.ownsRow.lt HOW.out.1 b rfl).1; omega
      have HAF := Lib.hid (show 0 < m → ∀ p, Ai = some p → ¬ x.F p.block from fun _ p hp q => by
        have q1 := HLT.out _ q
        have q2 := (World.ownsRow.lt opw p.block (by rw [hp]; rfl)).1
        omega)
      clear e2 e3 hrv hri hLi hfew hmem op opw hm cr hrp
      obtain ⟨sO, hsO⟩ : ∃ sO, sO = s.redone (LL.take i) := ⟨_, rfl⟩
      rw [← hsO] at HL1 HST
      clear hsO
      go_wp2_with fail
      go_loopw [6] (fun t wr => RedoIn w1 wr l x sO L t) (fun t _ => m - (intOf t).toNat)
      case atStart => exact ⟨0, by simp, Nat.zero_le _, HL1.out, HT1.out⟩
      case round =>
        obtain ⟨k, rfl, hk, hlg, ht⟩ := hrel
        have HLG := Lib.hid hlg
        have HT := Lib.hid ht
        have hk' : k ≤ m := by rw [HN.out]; exact hk
        have cr := HT.out.cell' HCR.out hbF
        clear hlg ht hk
        by_cases hlt : k < m
        · have R1 : RP wr Ai m L := RP.turn HRP.out HT.out HAF.out
          obtain ⟨b', o', r, hrk, rfl, hb, d0, d1⟩ := R1.at_ hlt
          have hrm : r.dat.size ≤ 1000 := by have := HWW.out r (List.mem_of_getElem? hrk); omega
          have HRK := Lib.hid (patches_step (s := sO) hrk)
          have cl := HLG.out.2.1.c3.1
          obtain ⟨s2, hs2⟩ : ∃ s2, s2 = sO.patches (L.take k) := ⟨_, rfl⟩
          rw [← hs2] at HLG HRK
          clear hrk R1 hs2
          cases hin : inW 1024 r.pos r.dat.size with
          | true =>
            have HIN := Lib.hid hin
            clear hin
            go_wp2_with fail
            obtain ⟨wa, hwa⟩ : ∃ wa, wa = wr.alloc (.cells #[.int .i64 r.pos, .string r.dat] 37) := ⟨_, rfl⟩
            obtain ⟨bx, hbx⟩ : ∃ bx, bx = wr.heap.size := ⟨_, rfl⟩
            have NB := Row.new wr 37 [.int .i64 r.pos, .string r.dat] _ rfl
            have gA := (Grow.refl wr).alloc (.cells #[.int .i64 r.pos, .string r.dat] 37)
            rw [← hwa, ← hbx] at NB
            rw [← hwa] at gA
            have HGA := Lib.hid gA
            have hbF2 : ¬ x.F bx := fun q => by have := HLG.out.1.lt bx q; omega
            have hwz : wr.heap.size ≤ wa.heap.size := gA.size
            have hsS : (wa.cell? ⟨l, 0, none⟩ = some (.pointer (some ⟨x.p, 0, none⟩)) ∧ wa.cell? ⟨bx, 0, none⟩ = some (.int .i64 r.pos) ∧ wa.cell? ⟨bx, 1, none⟩ = some (.string r.dat)) := ⟨gA.cell cl, NB.1.c2.1, NB.1.c2.2⟩
            have HFS := Lib.hid (And.intro HLG.out.2.2 hbF2)
            rw [← hwa, ← hbx]
            have kc := fun (u : World) => Lib.run_convert_string_bytes (P := Try.prog) u 9 22 5 r.dat Try.underlying9 Try.underlying22 Try.underlying5
            clear hwa hbx NB gA d0 d1 cl cr
            refine wp_region_held_drew (S := fun w' => w'.cell? ⟨l, 0, none⟩ = some (.pointer (some ⟨x.p, 0, none⟩)) ∧ w'.cell? ⟨bx, 0, none⟩ = some (.int .i64 r.pos) ∧ w'.cell? ⟨bx, 1, none⟩ = some (.string r.dat)) (by kernel_rfl) ?_ (fun hHeld => ?_)
            · exact hsS
            refine wpAnyH_take (i := 0) (oi := _) (v := ?_) rfl (by kernel_rfl) (by kernel_rfl) (by kernel_rfl) (fun _ _ _ h => h) (Or.inl ⟨by rfl, ?_⟩) (by assumption) ?_
            rotate_left
            · (intro w hSw; (try dsimp only at hSw); go_simp; (try with_reducible rfl))
            simp only [Act.put, List.setIfInBounds_toArray]
            refine wpAnyH_take (i := 1) (oi := _) (v := ?_) rfl (by kernel_rfl) (by kernel_rfl) (by kernel_rfl) (fun _ _ _ h => h) (Or.inl ⟨by rfl, ?_⟩) (by assumption) ?_
            rotate_left
            · (intro w hSw; (try dsimp only at hSw); go_simp; (try with_reducible rfl))
            simp only [Act.put]
            refine wpAnyH_take (i := 2) (oi := _) (v := ?_) rfl (by kernel_rfl) (by kernel_rfl) (by kernel_rfl) (fun _ _ _ h => h) (Or.inl ⟨by rfl, ?_⟩) (by assumption) ?_
            rotate_left
            · (intro w hSw; (try dsimp only at hSw); go_simp; (try with_reducible rfl))
            simp only [Act.put]
            refine wpAnyH_take (i := 3) (oi := _) (v := ?_) rfl (by kernel_rfl) (by kernel_rfl) (by kernel_rfl) (fun _ _ _ h => h) (Or.inl ⟨by rfl, ?_⟩) (by assumption) ?_
            rotate_left
            · (intro w hSw; (try dsimp only at hSw); go_simp; (try with_reducible rfl))
            simp only [Act.put]
            refine wpAnyH_take (i := 4) (oi := _) (v := ?_) rfl (by kernel_rfl) (by kernel_rfl) (by kernel_rfl) (fun _ _ _ h => h) (Or.inl ⟨by rfl, ?_⟩) (by assumption) ?_
            rotate_left
            · (intro w hSw; (try dsimp only at hSw); go_simp; (try with_reducible rfl))
            simp only [Act.put]
            refine wpAnyH_take (i := 5) (oi := _) (v := ?_) rfl (by kernel_rfl) (by kernel_rfl) (by kernel_rfl) (fun _ _ _ h => h) (Or.inl ⟨by rfl, ?_⟩) (by assumption) ?_
            rotate_left
            · (intro w hSw; (try dsimp only at hSw); go_simp; (try with_reducible rfl))
            simp only [Act.put]
            refine wpAnyH_take (i := 6) (oi := _) (v := ?_) rfl (by kernel_rfl) (by kernel_rfl) (by kernel_rfl) (fun _ _ _ h => h) (Or.inl ⟨by rfl, ?_⟩) (by assumption) ?_
            rotate_left
            · (intro w hSw; (try dsimp only at hSw); go_simp; (try with_reducible rfl))
            simp only [Act.put]
            refine wpAnyH_take (i := 7) (oi := _) (v := ?_) rfl (by kernel_rfl) (by kernel_rfl) (by kernel_rfl) (fun _ _ _ h => h) (Or.inl ⟨by rfl, ?_⟩) (by assumption) ?_
            rotate_left
            · (intro w hSw; (try dsimp only at hSw); go_simp; (try with_reducible rfl))
            simp only [Act.put]
            refine wpAnyH_ready (rs := [8]) (by kernel_rfl) (by simp) ?_
            refine AllReadyH.cons (o := _) rfl (fun K hK => ?_) AllReadyH.nil
            go_simp
            refine hK.out _ _ (redo3_grow (bytesGrow _ _) (by assumption)) (fun hHeld2 => ?_)
            clear hK K
            refine wpAnyH_ready (rs := [9]) (by kernel_rfl) (by simp) ?_
            refine AllReadyH.cons (o := _) rfl (fun K hK => ?_) AllReadyH.nil
            go_simp
            refine (rl_store_ok HLG.out r HIN.out ?_ _ _ ?_ ?_).mono ?_; (repeat (first | exact Grow.refl _ | exact HGA.out | refine Grow.drew ?_ | refine Grow.drewN ?_ _ | refine Grow.trans ?_ (bytesGrow _ _))); (first | exact hwz | (simp; exact hwz)); (first | exact (bytes_of _ _ (by omega)).1 | exact (bytes_of _ _ (by omega)).1.drew); rintro e w5 ⟨rfl, h5, t5, t6⟩; have hs5 := redo3_turn (r := r) t5 HFS.out.1 HFS.out.2 (by assumption)
            refine hK.out _ _ hs5 (fun hHeld5 => ?_)
            clear hK K
            refine wpAnyH_take (i := 10) (oi := { dst := some 45, op := .binOp .eql 25 (.tmp 44) (.const (.int .i64 0)) 25, type := 4, pos := "ref.go:152", after := #[{ on := 9, ground := .data }], guard := none }) (v := ?_) rfl (by kernel_rfl) (by kernel_rfl) (by kernel_rfl) (fun _ _ _ h => h) (Or.inl ⟨by rfl, ?_⟩) (by assumption) ?_
            rotate_left
            · (intro w hSw; (try dsimp only at hSw); go_simp; (try with_reducible rfl))
            simp only [Act.put, List.setIfInBounds_toArray]
            refine wpAnyH_done (by kernel_rfl) ?_ _
            all_goals
              have H5 := Lib.hid h5
              have HT5 := Lib.hid (HT.out.and t6)
              clear h5 t5 t6 kc hsS
              go_wp2_with fail
              go_region_held3 (fun w' => w'.cell? ⟨l, 0, none⟩ = some (.pointer (some ⟨x.p, 0, none⟩)) ∧ w'.cell? ⟨bx, 0, none⟩ = some (.int .i64 r.pos) ∧ w'.cell? ⟨bx, 1, none⟩ = some (.string r.dat)) (first | exact hs5 | exact hs6) ((go_at_call 79; refine (rl_flush_at H5.out r ?_).mono ?_; (repeat (first | exact Grow.refl _ | refine Grow.drew ?_ | refine Grow.drewN ?_ _)); rintro e w6 ⟨er, rfl, h6, t6, t7⟩; have hs6 := redo3_turn (r := r) t6 HFS.out.1 HFS.out.2 (by assumption)))
              all_goals
                have H6 := Lib.hid h6
                have HT7 := Lib.hid (HT5.out.and t7)
                clear h6 t6 t7 hs5 hs6
                have X : RedoIn w1 w6 l x sO L (.int .i64 ((k : Int) + 1)) := ⟨k + 1, by simp, by have := HN.out; omega, by rw [HRK.out, MS.patch, if_pos HIN.out]; exact H6.out, HT7.out⟩
                have HX := Lib.hid X
                clear X
                go_wp2_with fail
                have e5 : wrap64 ((k : Int) + 1) = (k : Int) + 1 := IntWalk.wrap64_in _ (by omega)
                go_roundw
                case rel => (try rw [e5]); first | exact HX.out | ((repeat apply Exists.intro); exact HX.out) | ((repeat apply Exists.intro); refine ⟨HX.out, ?_⟩; rfl)
                case measure => first | exact measP hlt | exact measPW hlt e5
          | false =>
            have HIN := Lib.hid hin
            clear hin
            go_wp2_with fail
            obtain ⟨wa, hwa⟩ : ∃ wa, wa = wr.alloc (.cells #[.int .i64 r.pos, .string r.dat] 37) := ⟨_, rfl⟩
            obtain ⟨bx, hbx⟩ : ∃ bx, bx = wr.heap.size := ⟨_, rfl⟩
            have NB := Row.new wr 37 [.int .i64 r.pos, .string r.dat] _ rfl
            have gA := (Grow.refl wr).alloc (.cells #[.int .i64 r.pos, .string r.dat] 37)
            rw [← hwa, ← hbx] at NB
            rw [← hwa] at gA
            have HGA := Lib.hid gA
            have hbF2 : ¬ x.F bx := fun q => by have := HLG.out.1.lt bx q; omega
            have hwz : wr.heap.size ≤ wa.heap.size := gA.size
            have hsS : (wa.cell? ⟨l, 0, none⟩ = some (.pointer (some ⟨x.p, 0, none⟩)) ∧ wa.cell? ⟨bx, 0, none⟩ = some (.int .i64 r.pos) ∧ wa.cell? ⟨bx, 1, none⟩ = some (.string r.dat)) := ⟨gA.cell cl, NB.1.c2.1, NB.1.c2.2⟩
            have HFS := Lib.hid (And.intro HLG.out.2.2 hbF2)
            rw [← hwa, ← hbx]
            have kc := fun (u : World) => Lib.run_convert_string_bytes (P := Try.prog) u 9 22 5 r.dat Try.underlying9 Try.underlying22 Try.underlying5
            clear hwa hbx NB gA d0 d1 cl cr
            refine wp_region_held_drew (S := fun w' => w'.cell? ⟨l, 0, none⟩ = some (.pointer (some ⟨x.p, 0, none⟩)) ∧ w'.cell? ⟨bx, 0, none⟩ = some (.int .i64 r.pos) ∧ w'.cell? ⟨bx, 1, none⟩ = some (.string r.dat)) (by kernel_rfl) ?_ (fun hHeld => ?_)
            · exact hsS
            refine wpAnyH_take (i := 0) (oi := _) (v := ?_) rfl (by kernel_rfl) (by kernel_rfl) (by kernel_rfl) (fun _ _ _ h => h) (Or.inl ⟨by rfl, ?_⟩) (by assumption) ?_
            rotate_left
            · (intro w hSw; (try dsimp only at hSw); go_simp; (try with_reducible rfl))
            simp only [Act.put, List.setIfInBounds_toArray]
            refine wpAnyH_take (i := 1) (oi := _) (v := ?_) rfl (by kernel_rfl) (by kernel_rfl) (by kernel_rfl) (fun _ _ _ h => h) (Or.inl ⟨by rfl, ?_⟩) (by assumption) ?_
            rotate_left
            · (intro w hSw; (try dsimp only at hSw); go_simp; (try with_reducible rfl))
            simp only [Act.put]
            refine wpAnyH_take (i := 2) (oi := _) (v := ?_) rfl (by kernel_rfl) (by kernel_rfl) (by kernel_rfl) (fun _ _ _ h => h) (Or.inl ⟨by rfl, ?_⟩) (by assumption) ?_
            rotate_left
            · (intro w hSw; (try dsimp only at hSw); go_simp; (try with_reducible rfl))
            simp only [Act.put]
            refine wpAnyH_take (i := 3) (oi := _) (v := ?_) rfl (by kernel_rfl) (by kernel_rfl) (by kernel_rfl) (fun _ _ _ h => h) (Or.inl ⟨by rfl, ?_⟩) (by assumption) ?_
            rotate_left
            · (intro w hSw; (try dsimp only at hSw); go_simp; (try with_reducible rfl))
            simp only [Act.put]
            refine wpAnyH_take (i := 4) (oi := _) (v := ?_) rfl (by kernel_rfl) (by kernel_rfl) (by kernel_rfl) (fun _ _ _ h => h) (Or.inl ⟨by rfl, ?_⟩) (by assumption) ?_
            rotate_left
            · (intro w hSw; (try dsimp only at hSw); go_simp; (try with_reducible rfl))
            simp only [Act.put]
            refine wpAnyH_take (i := 5) (oi := _) (v := ?_) rfl (by kernel_rfl) (by kernel_rfl) (by kernel_rfl) (fun _ _ _ h => h) (Or.inl ⟨by rfl, ?_⟩) (by assumption) ?_
            rotate_left
            · (intro w hSw; (try dsimp only at hSw); go_simp; (try with_reducible rfl))
            simp only [Act.put]
            refine wpAnyH_take (i := 6) (oi := _) (v := ?_) rfl (by kernel_rfl) (by kernel_rfl) (by kernel_rfl) (fun _ _ _ h => h) (Or.inl ⟨by rfl, ?_⟩) (by assumption) ?_
            rotate_left
            · (intro w hSw; (try dsimp only at hSw); go_simp; (try with_reducible rfl))
            simp only [Act.put]
            refine wpAnyH_take (i := 7) (oi := _) (v := ?_) rfl (by kernel_rfl) (by kernel_rfl) (by kernel_rfl) (fun _ _ _ h => h) (Or.inl ⟨by rfl, ?_⟩) (by assumption) ?_
            rotate_left
            · (intro w hSw; (try dsimp only at hSw); go_simp; (try with_reducible rfl))
            simp only [Act.put]
            refine wpAnyH_ready (rs := [8]) (by kernel_rfl) (by simp) ?_
            refine AllReadyH.cons (o := _) rfl (fun K hK => ?_) AllReadyH.nil
            go_simp
            refine hK.out _ _ (redo3_grow (bytesGrow _ _) (by assumption)) (fun hHeld2 => ?_)
            clear hK K
            refine wpAnyH_ready (rs := [9]) (by kernel_rfl) (by simp) ?_
            refine AllReadyH.cons (o := _) rfl (fun K hK => ?_) AllReadyH.nil
            go_simp
            refine (rl_store_no HLG.out r HIN.out ?_ _ _ ?_ ?_).mono ?_; (repeat (first | exact Grow.refl _ | exact HGA.out | refine Grow.drew ?_ | refine Grow.drewN ?_ _ | refine Grow.trans ?_ (bytesGrow _ _))); (first | exact hwz | (simp; exact hwz)); (first | exact (bytes_of _ _ (by omega)).1 | exact (bytes_of _ _ (by omega)).1.drew); rintro e w5 ⟨rfl, h5, t5, t6⟩; have hs5 := redo3_turn (r := r) t5 HFS.out.1 HFS.out.2 (by assumption)
            refine hK.out _ _ hs5 (fun hHeld5 => ?_)
            clear hK K
            refine wpAnyH_take (i := 10) (oi := { dst := some 45, op := .binOp .eql 25 (.tmp 44) (.const (.int .i64 0)) 25, type := 4, pos := "ref.go:152", after := #[{ on := 9, ground := .data }], guard := none }) (v := ?_) rfl (by kernel_rfl) (by kernel_rfl) (by kernel_rfl) (fun _ _ _ h => h) (Or.inl ⟨by rfl, ?_⟩) (by assumption) ?_
            rotate_left
            · (intro w hSw; (try dsimp only at hSw); go_simp; (try with_reducible rfl))
            simp only [Act.put, List.setIfInBounds_toArray]
            refine wpAnyH_done (by kernel_rfl) ?_ _
            all_goals
              have H5 := Lib.hid h5
              have HT5 := Lib.hid (HT.out.and t6)
              clear h5 t5 t6 kc hsS
              clear hs5
              have X : RedoIn w1 w5 l x sO L (.int .i64 ((k : Int) + 1)) := ⟨k + 1, by simp, by have := HN.out; omega, by rw [HRK.out, MS.patch, if_neg (by rw [HIN.out]; simp)]; exact H5.out, HT5.out⟩
              have HX := Lib.hid X
              clear X
              go_wp2_with fail
              have e5 : wrap64 ((k : Int) + 1) = (k : Int) + 1 := IntWalk.wrap64_in _ (by omega)
              go_roundw
              case rel => (try rw [e5]); first | exact HX.out | ((repeat apply Exists.intro); exact HX.out) | ((repeat apply Exists.intro); refine ⟨HX.out, ?_⟩; rfl)
              case measure => first | exact measP hlt | exact measPW hlt e5
        · obtain rfl : k = m := by omega
          have HLE := Lib.hid (show sO.patches (L.take k) = sO.patches L by rw [List.take_of_length_le (by rw [← HN.out]; exact Nat.le_refl _)])
          have X : RedoOut w1 wr l x s LL (.int .i64 ((i : Int) + 1)) := ⟨i + 1, by simp, by have := HN0.out; omega, by rw [HST.out, ← HLE.out]; exact HLG.out, HT.out⟩
          have HX := Lib.hid X
          clear X hlt
          go_wp2_with fail
          have e5 : wrap64 ((i : Int) + 1) = (i : Int) + 1 := IntWalk.wrap64_in _ (by omega)
          go_roundw
          case rel => (try rw [e5]); first | exact HX.out | ((repeat apply Exists.intro); exact HX.out) | ((repeat apply Exists.intro); refine ⟨HX.out, ?_⟩; rfl)
          case measure => first | exact measP hilt | exact measPW hilt e5
    · obtain rfl : i = n := by omega
      have h3 := HL1.out
      rw [List.take_of_length_le (by rw [HN0.out]; exact Nat.le_refl _)] at h3
      have H2 := Lib.hid h3
      have c0 := h3.2.1.c3.1
      have HT2 := Lib.hid ((Turn.grow HG1.out x.F).and HT1.out)
      clear h3 hilt
      go_wp2_with fail
      refine (rm_fence H2.out.1).mono ?_
      rintro e w3 ⟨rfl, hP3, t3⟩
      have H3 := Lib.hid (show RL w3 l x (s.redone LL).fence from ⟨hP3, H2.out.2.1.turn t3 H2.out.2.2, H2.out.2.2⟩)
      have HT3 := Lib.hid (HT2.out.and t3)
      clear hP3 t3 c0
      go_wp2_with fail
      refine (rl_clear H3.out).mono ?_
      rintro e w4 ⟨rfl, h4, t4⟩
      have H4 := Lib.hid h4
      have HT4 := Lib.hid (HT3.out.and t4)
      clear h4 t4
      go_wp2_with fail
      go_ret
      exact ⟨ret_int (by rw [← HLL.out, HN0.out]), by rw [MS.redo, ← HLL.out]; exact H4.out, HT4.out⟩
end Go.Proofs.Ytlinlmimakealaa

namespace Go.Proofs.Ytlinlmimakealaa
open Go.RowKit

theorem rm_new_no (n : Int) (h : sizeB n = false) (w : World) :
    Calls Try.prog 30 #[.int .i64 n] w fun e w' => e = .returned (.pointer none) ∧ w = w' := by
  have h0 : ¬ (64 ≤ n ∧ n ≤ 1048576 ∧ n % 64 = 0) := fun q => by rw [sizeB_iff.2 q] at h; cases h
  by_cases h1 : n < 64
  · have z1 : decide (n < 64) = true := decide_eq_true h1
    clear h h0 h1
    go_enter Try.func30, Try.ntmps30
    go_wp2_with fail
    go_ret
    exact ⟨rfl, rfl⟩
  · have z1 : decide (n < 64) = false := decide_eq_false h1
    by_cases h2 : 1048576 < n
    · have z2 : decide (1048576 < n) = true := decide_eq_true h2
      clear h h0 h1 h2
      go_enter Try.func30, Try.ntmps30
      go_wp2_with fail
      go_ret
      exact ⟨rfl, rfl⟩
    · have z2 : decide (1048576 < n) = false := decide_eq_false h2
      have z3 : (Int.tmod n 64 != 0) = true := by rw [Int.tmod_eq_emod_of_nonneg (by omega), bne_iff_ne]; omega
      clear h h0 h1 h2
      go_enter Try.func30, Try.ntmps30
      go_wp2_with fail
      go_ret
      exact ⟨rfl, rfl⟩

theorem bool_info : (Try.prog.info? 4).map (fun i => (i.zero, i.size, i.bytes)) = some (some (.bool false), 1, 1) := by kernel_rfl
def zbytes (L : Nat) : Array Value := Array.replicate L (.int .u8 0)
def zbools (N : Nat) : Array Value := Array.replicate N (.bool false)
theorem make_bytes (L : Nat) (hL : L ≤ 1048576) (w : World) : (Instr.makeSlice 22 (.int .i64 (L : Int)) (.int .i64 (L : Int))).run Try.prog w = .ok (.slice (some ⟨w.heap.size, 0, none⟩) L L) (w.alloc (.cells (zbytes L) 5)) := by
  obtain ⟨i0, hi, hz, h1, h2⟩ := info_parts byte_info
  have := run_make (P := Try.prog) w 22 5 i0 _ Try.underlying22 hi hz .i64 .i64 L L (by omega) (Int.le_refl _) (by rw [h2]; omega) (by omega)
  have e : madeCells (Value.int .u8 0).cells (L * 1) = zbytes L := by
    rw [Nat.mul_one]; apply Array.ext
    · simp [madeCells, zbytes]
    · intro j h3 h4; simp [madeCells, zbytes, Value.cells, Nat.mod_one]
  simp only [Int.toNat_natCast, h1, e] at this
  exact this
theorem make_bools (N : Nat) (hN : N ≤ 1048576) (w : World) : (Instr.makeSlice 89 (.int .i64 (N : Int)) (.int .i64 (N : Int))).run Try.prog w = .ok (.slice (some ⟨w.heap.size, 0, none⟩) N N) (w.alloc (.cells (zbools N) 4)) := by
  obtain ⟨i0, hi, hz, h1, h2⟩ := info_parts bool_info
  have := run_make (P := Try.prog) w 89 4 i0 _ Try.underlying89 hi hz .i64 .i64 N N (by omega) (Int.le_refl _) (by rw [h2]; omega) (by omega)
  have e : madeCells (Value.bool false).cells (N * 1) = zbools N := by
    rw [Nat.mul_one]; apply Array.ext
    · simp [madeCells, zbools]
    · intro j h3 h4; simp [madeCells, zbools, Value.cells, Nat.mod_one]
  simp only [Int.toNat_natCast, h1, e] at this
  exact this

theorem zbytes_row {w : World} {g L : Nat} (h : w.heap[g]? = some (.cells (zbytes L) 5)) (hL : L ≤ 1048576) : CR w g 5 1 L L (bvs (List.replicate L 0)) := by
  refine ⟨by simp [bvs], Nat.le_refl _, by unfold maxLen; omega, _, h, by simp [zbytes], ?_⟩
  rw [List.take_of_length_le (by simp [zbytes])]
  simp [zbytes, bvs, bv]
theorem zbools_row {w : World} {g L : Nat} (h : w.heap[g]? = some (.cells (zbools L) 4)) (hL : L ≤ 1048576) : CR w g 4 1 L L (tbs (List.replicate L false)) := by
  refine ⟨by simp [tbs], Nat.le_refl _, by unfold maxLen; omega, _, h, by simp [zbools], ?_⟩
  rw [List.take_of_length_le (by simp [zbools])]
  simp [zbools, tbs]

set_option maxHeartbeats 2000000 in
theorem rm_new_yes (N : Nat) (hN : N % 8 = 0 ∧ 8 ≤ N ∧ N ≤ 131072) (w : World) :
    Calls Try.prog 30 #[.int .i64 (8 * N : Nat)] w fun e w' => ∃ x : MB, e = .returned (.pointer (some ⟨x.p, 0, none⟩)) ∧ RM w' x N (List.replicate (8 * N) 0) (List.replicate (8 * N) 0) (List.replicate N false) ∧ (∀ k, x.F k → w.heap.size ≤ k) ∧ Grow w w' := by
  obtain ⟨n, hn⟩ : ∃ n, n = 8 * N := ⟨_, rfl⟩
  have z1 : decide ((n : Int) < 64) = false := decide_eq_false (by omega)
  have z2 : decide (1048576 < (n : Int)) = false := decide_eq_false (by omega)
  have z3 : (Int.tmod (n : Int) 64 != 0) = false := by rw [Int.tmod_eq_emod_of_nonneg (by omega), show (n : Int) % 64 = 0 by omega]; rfl
  have z4 : ((n : Int) % 64 != 0) = false := by rw [show (n : Int) % 64 = 0 by omega]; rfl
  have e0 : (n : Int) / 8 = (N : Int) := by clear z1 z2 z3 z4; omega
  have e1 : Int.tdiv (n : Int) 8 = (N : Int) := by clear e0; rw [Int.tdiv_eq_ediv_of_nonneg (by omega)]; omega
  have e2 := wrap_small (q := N) (by have := hN.2.2; clear z1 z2 z3 z4 e0 e1; omega)
  have hmk := make_bytes n (by clear z1 z2 z3 z4 e0 e1 e2; omega)
  have hmb := make_bools N (by clear z1 z2 z3 z4 e0 e1 e2; omega)
  have HN := Lib.hid hN
  have HNN := Lib.hid hn
  rw [← hn]
  clear hn hN
  go_enter Try.func30, Try.ntmps30
  go_wp2_with fail
  go_ret
  obtain ⟨q0, q1, q2, q3⟩ := alloc4 w (.cells #[.slice (some ⟨w.heap.size + 1, 0, none⟩) n n, .slice (some ⟨w.heap.size + 1 + 1, 0, none⟩) n n, .slice (some ⟨w.heap.size + 1 + 1 + 1, 0, none⟩) N N] 91) (.cells (zbytes n) 5) (.cells (zbytes n) 5) (.cells (zbools N) 4)
  have hn := HNN.out
  have hN := HN.out
  refine ⟨⟨w.heap.size, w.heap.size + 1, w.heap.size + 1 + 1, w.heap.size + 1 + 1 + 1⟩, rfl, ⟨n, n, N, hN, by unfold MB.apart; simp; try omega, ⟨rfl, Nat.le_refl _, by unfold maxLen; clear e0 e1 e2 z1 z2 z3 z4; omega, _, q0, rfl, ?_⟩, ?_, ?_, ?_⟩, fun k hk => by (rcases hk with h | h | h | h <;> simp at h <;> omega), ((((Grow.refl w).alloc _).alloc _).alloc _).alloc _⟩
  · rw [← hn]; rfl
  · have := zbytes_row q1 (by clear e0 e1 e2 z1 z2 z3 z4; omega); rw [← hn]; exact this
  · have := zbytes_row q2 (by clear e0 e1 e2 z1 z2 z3 z4; omega); rw [← hn]; exact this
  · exact zbools_row q3 (by clear e0 e1 e2 z1 z2 z3 z4; omega)
end Go.Proofs.Ytlinlmimakealaa

namespace Go.Proofs.Ytlinlmimakealaa
open Go.RowKit

/-- A memory and a log, and the document's, in the same state and apart. -/
structure PX (w : World) (base pb l d : Nat) (x y : MB) (s : MS) : Prop where
  lg : LG w l x s
  rl : RL w d y s
  ap : ∀ k, x.F k → ¬ y.F k
  xd : ¬ x.F d
  yl : ¬ y.F l
  blk : Blk w pb [.pointer (some ⟨x.p, 0, none⟩), .pointer (some ⟨l, 0, none⟩), .pointer (some ⟨y.p, 0, none⟩), .pointer (some ⟨d, 0, none⟩)]
  xp : ¬ x.F pb
  yp : ¬ y.F pb
  xb : ∀ k, x.F k → base ≤ k
  yb : ∀ k, y.F k → base ≤ k
section
variable {w w' w1 w2 : World} {base pb l d : Nat} {x y : MB} {s s' : MS}
theorem PX.keep (h : PX w base pb l d x y s) (g : Grow w w') : PX w' base pb l d x y s :=
  ⟨h.lg.keep g, h.rl.keep g, h.ap, h.xd, h.yl, h.blk.keep g, h.xp, h.yp, h.xb, h.yb⟩
theorem PX.turn {F : Nat → Prop} (h : PX w base pb l d x y s) (t : Turn F w w') (hF : ∀ k, F k → ¬ x.F k ∧ ¬ y.F k ∧ k ≠ l ∧ k ≠ d ∧ k ≠ pb) : PX w' base pb l d x y s :=
  ⟨h.lg.turn t (fun k q => (hF k q).1) (fun q => (hF l q).2.2.1 rfl), h.rl.turn t (fun k q => (hF k q).2.1) (fun q => (hF d q).2.2.2.1 rfl), h.ap, h.xd, h.yl, h.blk.turn t (fun q => (hF pb q).2.2.2.2 rfl), h.xp, h.yp, h.xb, h.yb⟩
/-- A verb of the one, then of the other. -/
theorem PX.both (h : PX w base pb l d x y s) (h1 : LG w1 l x s') (t1 : Turn x.F w w1) (h2 : RL w2 d y s') (t2 : Turn y.F w1 w2) : PX w2 base pb l d x y s' :=
  ⟨h1.turn t2 (fun k q q2 => h.ap k q2 q) h.yl, h2, h.ap, h.xd, h.yl, (h.blk.turn t1 h.xp).turn t2 h.yp, h.xp, h.yp, h.xb, h.yb⟩
theorem PX.rl1 (h : PX w base pb l d x y s) (t1 : Turn x.F w w1) : RL w1 d y s := h.rl.turn t1 (fun k q => h.ap k q) h.xd
theorem PX.blk1 (h : PX w base pb l d x y s) (t1 : Turn x.F w w1) : Blk w1 pb [.pointer (some ⟨x.p, 0, none⟩), .pointer (some ⟨l, 0, none⟩), .pointer (some ⟨y.p, 0, none⟩), .pointer (some ⟨d, 0, none⟩)] := h.blk.turn t1 h.xp
theorem PX.ok (h : PX w base pb l d x y s) : s.ok := ⟨h.lg.1.lenS, h.lg.1.lenT, h.lg.1.lenA⟩
theorem PX.low (h : PX w base pb l d x y s) (hb : base ≤ w.heap.size) (t1 : Turn x.F w w1) (t2 : Turn y.F w1 w2) : Below base w w2 := (t1.low h.xb hb).trans (t2.low h.yb (Nat.le_trans hb t1.size))
end

/-- What a walk wants of the bytes of the document's memory. -/
theorem RM.eyes2 {w : World} {x : MB} {S T : List UInt8} {A : List Bool} (h : RM w x 128 S T A) : ∃ L cs ct, Hid (L = 1024) ∧ L ≤ 1024 ∧ 1024 ≤ L ∧ w.cell? ⟨x.p, 0, none⟩ = some (.slice (some ⟨x.gs, 0, none⟩) L cs) ∧ w.cell? ⟨x.p, 1, none⟩ = some (.slice (some ⟨x.gt, 0, none⟩) L ct) ∧ Sl w (some ⟨x.gs, 0, none⟩) L S ∧ Sl w (some ⟨x.gt, 0, none⟩) L T := by
  have hl := h.lenS
  have hl2 := h.lenT
  obtain ⟨L, cs, ct, ca, HL, h1, h2, -, c0, c1, -, -⟩ := h.look
  have e : L = 1024 := HL.out
  exact ⟨L, cs, ct, Lib.hid e, by omega, by omega, c0, c1, ⟨by omega, by omega, h.seenRB⟩, ⟨by omega, by omega, h.lastRB⟩⟩

end Go.Proofs.Ytlinlmimakealaa

namespace Go.Proofs.Ytlinlmimakealaa
open Go.RowKit

def cutP (m : Nat) (p : PT) : PT := ⟨p.pos, if m < p.dat.size then p.dat.extract 0 m else p.dat⟩
def fewP (k m : Nat) (L : List PT) : List PT := (L.take k).map (cutP m)
theorem fewP_length (k m : Nat) (L : List PT) : (fewP k m L).length ≤ k := by simp [fewP]; omega
theorem cutP_size {m : Nat} (p : PT) : (cutP m p).dat.size ≤ m := by
  unfold cutP
  by_cases h : m < p.dat.size
  · simp [h, ByteArray.size_extract]; omega
  · simp [h]; omega
theorem fewP_wide {k m : Nat} {L : List PT} (h : ∀ p ∈ L, p.wide) : ∀ p ∈ fewP k m L, p.wide := by
  intro p hp
  obtain ⟨q, hq, rfl⟩ := List.mem_map.1 hp
  exact h q (List.mem_of_mem_take hq)
theorem fewP_few {k m : Nat} {L : List PT} : ∀ p ∈ fewP k m L, p.dat.size ≤ m := by
  intro p hp
  obtain ⟨q, hq, rfl⟩ := List.mem_map.1 hp
  exact cutP_size q
theorem fewP_step {i m : Nat} {L : List PT} {r : PT} (h : L[i]? = some r) : fewP (i + 1) m L = fewP i m L ++ [cutP m r] := by
  rw [fewP, List.take_add_one, h]; simp [fewP]
theorem fewP_end {i k m n : Nat} {L : List PT} (hn : L.length = n) (hi : i ≤ n) (hk : i ≤ k) (h : ¬ (i < n ∧ i < k)) : fewP i m L = fewP k m L := by
  unfold fewP
  congr 1
  rcases Nat.lt_or_ge i k with q | q
  · rw [List.take_of_length_le (by omega), List.take_of_length_le (by omega)]
  · rw [show i = k by omega]
/-- A slice that reads as patches, of any length. -/
def RQ (w : World) (A : Option Addr) (n : Nat) (L : List PT) : Prop := L.length = n ∧ Rd w w.heap.size A 2 n (pcs L)
theorem RP.rq {w : World} {A : Option Addr} {n : Nat} {L : List PT} (h : RP w A n L) : RQ w A n L := ⟨h.1, h.2.2⟩
theorem RQ.keep {w w' : World} {A : Option Addr} {n : Nat} {L : List PT} (h : RQ w A n L) (g : Grow w w') : RQ w' A n L := ⟨h.1, (Rd.below h.2 g).more g.size⟩
theorem RQ.at_ {w : World} {A : Option Addr} {n : Nat} {L : List PT} (h : RQ w A n L) {i : Nat} (hi : i < n) : ∃ b o r, L[i]? = some r ∧ A = some ⟨b, o, none⟩ ∧ b < w.heap.size ∧ w.cell? ⟨b, o + i * 2, none⟩ = some (.int .i64 r.pos) ∧ w.cell? ⟨b, o + i * 2 + 1, none⟩ = some (.string r.dat) := by
  obtain ⟨hn, hl, hr⟩ := h
  obtain ⟨b, o, rfl, hb, hc⟩ := hr (by omega)
  have hi' : i < L.length := by omega
  refine ⟨b, o, L[i], by simp [hi'], rfl, hb, ?_, ?_⟩
  · have := hc (i * 2 + 0) _ ((pcs_get L i 0 hi' (by omega)).trans rfl); simpa [Nat.add_assoc] using this
  · have := hc (i * 2 + 1) _ ((pcs_get L i 1 hi' (by omega)).trans rfl); simpa [Nat.add_assoc] using this
def FewInv (w wr : World) (k m : Nat) (L : List PT) (v t : Value) : Prop := ∃ i : Nat, t = .int .i64 (i : Int) ∧ i ≤ L.length ∧ i ≤ k ∧ OP wr w.heap.size v (fewP i m L) ∧ Grow w wr
theorem measF {M k : Nat} (h : k < M) : M - (intOf (.int .i64 ((k : Int) + 1))).toNat < M - (intOf (.int .i64 (k : Int))).toNat := by simp [intOf]; omega
theorem measFW {M k : Nat} (h : k < M) (e : wrap64 ((k : Int) + 1) = (k : Int) + 1) : M - (intOf (.int .i64 (wrap64 ((k : Int) + 1)))).toNat < M - (intOf (.int .i64 (k : Int))).toNat := by rw [e]; exact measF h

end Go.Proofs.Ytlinlmimakealaa
