/- (*commons/txn.Txn).Store: one patch more, or none. Load of a transaction: the memory's bytes, and its own patches over them. slices.Clone at patches; Patches, Drop, Commit of a transaction. (*commons/commonsref09.Txn).Store: one patch more, or none. No statement of the seat is proved here. -/
import Derived.Test.YtlinlmimakealaaZ17
import Derived.Test.YtlinlmimakealaaZ12
import Derived.Test.YtlinlmimakealaaZ07
namespace Go.Proofs.Ytlinlmimakealaa
open Go.RowKit
theorem Grow.turnAnd {a b c : World} {F : Nat → Prop} (g : Grow a b) (t : Turn F b c) : Turn F a c := (Turn.grow g F).and t

set_option maxHeartbeats 4000000 in
set_option maxRecDepth 4000 in
theorem tx_store {w : World} {base t l : Nat} {x : MB} {s : MS} {L : List PT} {v : Value} (h : TX w base t l x s L v) (hb : base ≤ w.heap.size) {B : Option Addr} {m c : Nat} {bs : List UInt8} (hs : Sl w B m bs) (hB : 0 < m → ∀ p, B = some p → v.ownBlock ≠ some p.block ∧ p.block ≠ t) (a : Int) :
    Calls Try.prog 9 #[.pointer (some ⟨t, 0, none⟩), .int .i64 a, .slice B m c] w fun e w' => e = .returned (.int .i64 (errV (stO L a m))) ∧ ∃ v', TX w' base t l x s (stL L a bs) v' ∧ Turn (fun i => i = t ∨ v.ownBlock = some i) w w' ∧ (v'.ownBlock = v.ownBlock ∨ ∃ g, v'.ownBlock = some g ∧ w.heap.size ≤ g) := by
  obtain ⟨Av, cv, rfl, hcv⟩ := h.row.form
  have HELD := Lib.hid (h.held)
  have hmb := hs.1
  have H := Lib.hid h
  have HS0 := Lib.hid hs
  have HBB := Lib.hid hB
  have c2 := h.blk.1.2 2 _ rfl
  have c0 := h.blk.1.2 0 _ rfl
  have hfew := h.held.few
  have hm2 := hs.2.1
  clear h hs hB
  go_enter Try.func9, Try.ntmps9
  go_wp2_with fail
  refine (pm_loadU H.out.lg.1 a (m : Nat) (by omega) (by have := HS0.out.2.1; omega)).mono ?_
  rintro e w1 ⟨A1, c1, rfl, -, g1⟩
  have H1 := Lib.hid (H.out.keep g1)
  have HS := Lib.hid (HS0.out.keep g1)
  have G1 := Lib.hid g1
  have HB1 := Lib.hid (show base ≤ w1.heap.size by have := g1.size; omega)
  have d2 := g1.cell c2
  have d0 := (H1.out.blk.2 2 (by simp))
  clear g1 c2
  rw [show (8 * 128 : Nat) = 1024 from rfl]
  generalize loadM 128 a (m : Int) = mm
  cases hin : inW 1024 a (m : Int) with
  | false =>
    have HNO := Lib.hid (show L = stL L a bs by unfold stL stO; rw [hmb, hin]; simp)
    have HNE := Lib.hid (show stO L a m = false by unfold stO; rw [hin]; simp)
    clear hin
    go_wp2_with fail
    go_ret
    refine ⟨?_, _, HNO.out ▸ H1.out, G1.out.turnAnd (Turn.refl _ _), .inl rfl⟩
    rw [HNE.out]; rfl
  | true =>
    by_cases h256 : 256 < m
    · have z1 : decide (256 < m) = true := decide_eq_true h256
      have z2 : decide ((256 : Int) < (m : Int)) = true := decide_eq_true (by omega)
      have HNO := Lib.hid (show L = stL L a bs by unfold stL stO; rw [hmb, hin]; simp [Nat.not_le.2 h256])
      have HNE := Lib.hid (show stO L a m = false by unfold stO; rw [hin]; simp [Nat.not_le.2 h256])
      clear hin
      go_wp2_with fail
      go_ret
      refine ⟨?_, _, HNO.out ▸ H1.out, G1.out.turnAnd (Turn.refl _ _), .inl rfl⟩
      rw [HNE.out]; rfl
    · have z1 : decide (256 < m) = false := decide_eq_false h256
      have z2 : decide ((256 : Int) < (m : Int)) = false := decide_eq_false (by omega)
      by_cases h64 : L.length < 64
      · have z3 : decide (64 ≤ L.length) = false := decide_eq_false (by omega)
        have z4 : decide ((64 : Int) ≤ (L.length : Int)) = false := decide_eq_false (by omega)
        have z5 : ¬ (L.length : Int) = 64 := by omega
        have HSO := Lib.hid (show stO L a m = true by unfold stO; rw [hin]; simp [Nat.not_lt.1 h256, h64])
        have HSL := Lib.hid (show stL L a bs = L ++ [⟨a, ⟨bs.toArray⟩⟩] by unfold stL; rw [hmb, HSO.out]; rfl)
        have HELD := Lib.hid (show Held (L ++ [⟨a, ⟨bs.toArray⟩⟩]) by rw [← HSL.out]; exact H1.out.held.store a bs)
        have dA := ((Grow.refl w1).alloc (.cells #[.int .i64 a, .string ⟨bs.toArray⟩] 37)).cell d2
        have conv_c := fun {w' : World} (hS : Sl w' B m bs) (c : Nat) => conv_s (c := c) hS
        clear hin
        go_wp2_with fail
        have HSS := HS.out
        refine wp_region_held_drew (S := fun w' => Sl w' B m bs) (by kernel_rfl) ?_ (fun hHeld => ?_)
        · exact HSS
        refine wpAnyH_take (i := 0) (oi := _) (v := ?_) rfl (by kernel_rfl) (by kernel_rfl) (by kernel_rfl) (fun _ _ _ h => h) (Or.inl ⟨by rfl, ?_⟩) (by assumption) ?_
        rotate_left
        · (intro w hSw; (try dsimp only at hSw); go_simp; (try with_reducible rfl))
        simp only [Act.put, List.setIfInBounds_toArray]
        refine wpAnyH_take (i := 1) (oi := _) (v := ?_) rfl (by kernel_rfl) (by kernel_rfl) (by kernel_rfl) (fun _ _ _ h => h) (Or.inl ⟨by rfl, ?_⟩) (by assumption) ?_
        rotate_left
        · (intro w hSw; (try dsimp only at hSw); go_simp; (try with_reducible rfl))
        simp only [Act.put]
        refine wpAnyH_take (i := 2) (oi := _) (v := ?_) rfl (by kernel_rfl) (by kernel_rfl) (by kernel_rfl) (fun _ _ _ h => h) (Or.inl ⟨by rfl, ?_⟩) (by assumption) ?_
        rotate_left
        · (intro w hSw; (try dsimp only at hSw); go_simp; (try with_reducible rfl))
        simp only [Act.put]
        refine wpAnyH_take (i := 3) (oi := _) (v := ?_) rfl (by kernel_rfl) (by kernel_rfl) (by kernel_rfl) (fun _ _ _ h => h) (Or.inl ⟨by rfl, ?_⟩) (by assumption) ?_
        rotate_left
        · (intro w hSw; (try dsimp only at hSw); go_simp; (try with_reducible rfl))
        simp only [Act.put]
        refine wpAnyH_take (i := 5) (oi := _) (v := ?_) rfl (by kernel_rfl) (by kernel_rfl) (by kernel_rfl) (fun _ _ _ h => h) (Or.inl ⟨by rfl, ?_⟩) (by assumption) ?_
        rotate_left
        · (intro w hSw; (try dsimp only at hSw); go_simp; (try with_reducible rfl))
        simp only [Act.put]
        refine wpAnyH_take (i := 6) (oi := _) (v := ?_) rfl (by kernel_rfl) (by kernel_rfl) (by kernel_rfl) (fun _ _ _ h => h) (Or.inl ⟨by rfl, ?_⟩) (by assumption) ?_
        rotate_left
        · (intro w hSw; (try dsimp only at hSw); go_simp; (try with_reducible rfl))
        simp only [Act.put]
        refine wpAnyH_take (i := 7) (oi := _) (v := .string ⟨bs.toArray⟩) rfl (by kernel_rfl) (by kernel_rfl) (by kernel_rfl) (fun _ _ _ h => h) (Or.inl ⟨by rfl, ?_⟩) (by assumption) ?_
        · (intro w hSw; (try dsimp only at hSw); have kc := conv_c hSw c; go_simp)
        simp only [Act.put]
        refine wpAnyH_take (i := 8) (oi := _) (v := ?_) rfl (by kernel_rfl) (by kernel_rfl) (by kernel_rfl) (fun _ _ _ h => h) (Or.inl ⟨by rfl, ?_⟩) (by assumption) ?_
        rotate_left
        · (intro w hSw; (try dsimp only at hSw); go_simp; (try with_reducible rfl))
        simp only [Act.put]
        refine wpAnyH_ready (rs := [4, 9]) (by kernel_rfl) (by simp) ?_
        refine AllReadyH.cons (o := _) rfl (fun K hK => ?_) (AllReadyH.cons (o := _) rfl (fun K hK => ?_) AllReadyH.nil)
        · go_simp
          refine hK.out _ _ (by assumption) (fun hHeld4 => ?_)
          clear hK K
          refine wpAnyH_ready (rs := [9]) (by kernel_rfl) (by simp) ?_
          refine AllReadyH.cons (o := _) rfl (fun K hK => ?_) AllReadyH.nil
          go_simp
          refine hK.out _ _ (Sl.keep (by assumption) ((Grow.refl _).alloc _)) (fun hHeld9 => ?_)
          clear hK K
          refine wpAnyH_ready (rs := [10]) (by kernel_rfl) (by simp) ?_
          refine AllReadyH.cons (o := _) rfl (fun K hK => ?_) AllReadyH.nil
          refine step_appP rfl (.tmp 39) (.tmp 44) rfl base _ L rfl ⟨a, ⟨bs.toArray⟩⟩ _ (some ⟨w1.heap.size, 0, none⟩) (by first | rfl | simp) (Rd.new1 (w := w1) _ (by (repeat (first | exact Grow.refl _ | refine Grow.drew ?_ | refine Grow.drewN ?_ _ | refine Grow.alloc ?_ _)))) (H1.out.row.keep (by (repeat (first | exact Grow.refl _ | refine Grow.drew ?_ | refine Grow.drewN ?_ _ | refine Grow.alloc ?_ _)))) (by have := H1.out.held.few; omega) (by have := HB1.out; first | omega | (simp; omega)) ?_
          intro v5 w5 q1 q2 q3
          obtain ⟨A5, k5, e5v, -⟩ := q1.form
          rw [show (L ++ [(⟨a, ⟨bs.toArray⟩⟩ : PT)]).length = L.length + 1 by simp] at e5v
          subst e5v
          have g5 : Turn (fun i => (Value.slice Av L.length cv).ownBlock = some i) w1 w5 := (Turn.grow (show Grow w1 _ by (repeat (first | exact Grow.refl _ | refine Grow.drew ?_ | refine Grow.drewN ?_ _ | refine Grow.alloc ?_ _))) _).and (Turn.grown q2 (fun _ h => h))
          have H5 := Lib.hid (H1.out.put q1 g5 (q3.imp id fun e g hg => by rw [e] at hg; injection hg with hg; have hz : w1.heap.size ≤ g := (by have hg' : w1.heap.size + 1 = g := (by first | exact hg | simpa using hg); omega); exact hz) HELD.out)
          have f5 := (H1.out.blk.turn g5 (fun q => (H1.out.vx t q).2.1 rfl)).2 2 (by simp)
          have d5 := (H1.out.blk.turn g5 (fun q => (H1.out.vx t q).2.1 rfl)).1.2 2 _ rfl
          have HS5 := HS.out.turn' g5 (fun h0 p hp q => (HBB.out h0 p hp).1 q)
          refine hK.out _ _ HS5 (fun hHeld5 => ?_)
          clear hK K
          refine wpAnyH_take (i := 11) (oi := _) (v := ?_) rfl (by kernel_rfl) (by kernel_rfl) (by kernel_rfl) (fun _ _ _ h => h) (Or.inl ⟨by rfl, ?_⟩) (by assumption) ?_
          rotate_left
          · (intro w hSw; (try dsimp only at hSw); go_simp; (try with_reducible rfl))
          simp only [Act.put]
          refine wpAnyH_take (i := 12) (oi := _) (v := ?_) rfl (by kernel_rfl) (by kernel_rfl) (by kernel_rfl) (fun _ _ _ h => h) (Or.inl ⟨by rfl, ?_⟩) (by assumption) ?_
          rotate_left
          · (intro w hSw; (try dsimp only at hSw); go_simp; (try with_reducible rfl))
          simp only [Act.put]
          refine wpAnyH_ready (rs := [13]) (by kernel_rfl) (by simp) ?_
          refine AllReadyH.cons (o := _) rfl (fun K hK => ?_) AllReadyH.nil
          go_simp
          refine hK.out _ _ (HS5.turn' (Turn.setCell (F := fun i => i = t) w5 (p := ⟨t, 2, none⟩) rfl _) (fun h0 p hp q => (HBB.out h0 p hp).2 q)) (fun hHeld6 => ?_)
          clear hK K
          refine wpAnyH_done (by kernel_rfl) ?_ _
          have T5 := Lib.hid (Turn.set (Turn.mono g5 (G := fun i => i = t ∨ (Value.slice Av L.length cv).ownBlock = some i) (fun i h => .inr h)) ⟨t, 2, none⟩ (.inl rfl) (.slice A5 (L.length + 1) k5))
          clear q2 f5 d5 HS5 q1
          go_wp2_with fail
          go_ret
          exact ⟨by rw [HSO.out]; rfl, _, by rw [HSL.out]; exact H5.out, G1.out.turnAnd T5.out, q3.imp id fun e => ⟨_, e, by have := G1.out.size; first | omega | (simp; done) | (simp; omega)⟩⟩
        · go_simp
          refine hK.out _ _ (Sl.keep (by assumption) ((Grow.refl _).alloc _)) (fun hHeld9 => ?_)
          clear hK K
          refine wpAnyH_ready (rs := [4]) (by kernel_rfl) (by simp) ?_
          refine AllReadyH.cons (o := _) rfl (fun K hK => ?_) AllReadyH.nil
          go_simp
          refine hK.out _ _ (by assumption) (fun hHeld4 => ?_)
          clear hK K
          refine wpAnyH_ready (rs := [10]) (by kernel_rfl) (by simp) ?_
          refine AllReadyH.cons (o := _) rfl (fun K hK => ?_) AllReadyH.nil
          refine step_appP rfl (.tmp 39) (.tmp 44) rfl base _ L rfl ⟨a, ⟨bs.toArray⟩⟩ _ (some ⟨w1.heap.size, 0, none⟩) (by first | rfl | simp) (Rd.new1 (w := w1) _ (by (repeat (first | exact Grow.refl _ | refine Grow.drew ?_ | refine Grow.drewN ?_ _ | refine Grow.alloc ?_ _)))) (H1.out.row.keep (by (repeat (first | exact Grow.refl _ | refine Grow.drew ?_ | refine Grow.drewN ?_ _ | refine Grow.alloc ?_ _)))) (by have := H1.out.held.few; omega) (by have := HB1.out; first | omega | (simp; omega)) ?_
          intro v5 w5 q1 q2 q3
          obtain ⟨A5, k5, e5v, -⟩ := q1.form
          rw [show (L ++ [(⟨a, ⟨bs.toArray⟩⟩ : PT)]).length = L.length + 1 by simp] at e5v
          subst e5v
          have g5 : Turn (fun i => (Value.slice Av L.length cv).ownBlock = some i) w1 w5 := (Turn.grow (show Grow w1 _ by (repeat (first | exact Grow.refl _ | refine Grow.drew ?_ | refine Grow.drewN ?_ _ | refine Grow.alloc ?_ _))) _).and (Turn.grown q2 (fun _ h => h))
          have H5 := Lib.hid (H1.out.put q1 g5 (q3.imp id fun e g hg => by rw [e] at hg; injection hg with hg; have hz : w1.heap.size ≤ g := (by have hg' : w1.heap.size + 1 = g := (by first | exact hg | simpa using hg); omega); exact hz) HELD.out)
          have f5 := (H1.out.blk.turn g5 (fun q => (H1.out.vx t q).2.1 rfl)).2 2 (by simp)
          have d5 := (H1.out.blk.turn g5 (fun q => (H1.out.vx t q).2.1 rfl)).1.2 2 _ rfl
          have HS5 := HS.out.turn' g5 (fun h0 p hp q => (HBB.out h0 p hp).1 q)
          refine hK.out _ _ HS5 (fun hHeld5 => ?_)
          clear hK K
          refine wpAnyH_take (i := 11) (oi := _) (v := ?_) rfl (by kernel_rfl) (by kernel_rfl) (by kernel_rfl) (fun _ _ _ h => h) (Or.inl ⟨by rfl, ?_⟩) (by assumption) ?_
          rotate_left
          · (intro w hSw; (try dsimp only at hSw); go_simp; (try with_reducible rfl))
          simp only [Act.put]
          refine wpAnyH_take (i := 12) (oi := _) (v := ?_) rfl (by kernel_rfl) (by kernel_rfl) (by kernel_rfl) (fun _ _ _ h => h) (Or.inl ⟨by rfl, ?_⟩) (by assumption) ?_
          rotate_left
          · (intro w hSw; (try dsimp only at hSw); go_simp; (try with_reducible rfl))
          simp only [Act.put]
          refine wpAnyH_ready (rs := [13]) (by kernel_rfl) (by simp) ?_
          refine AllReadyH.cons (o := _) rfl (fun K hK => ?_) AllReadyH.nil
          go_simp
          refine hK.out _ _ (HS5.turn' (Turn.setCell (F := fun i => i = t) w5 (p := ⟨t, 2, none⟩) rfl _) (fun h0 p hp q => (HBB.out h0 p hp).2 q)) (fun hHeld6 => ?_)
          clear hK K
          refine wpAnyH_done (by kernel_rfl) ?_ _
          have T5 := Lib.hid (Turn.set (Turn.mono g5 (G := fun i => i = t ∨ (Value.slice Av L.length cv).ownBlock = some i) (fun i h => .inr h)) ⟨t, 2, none⟩ (.inl rfl) (.slice A5 (L.length + 1) k5))
          clear q2 f5 d5 HS5 q1
          go_wp2_with fail
          go_ret
          exact ⟨by rw [HSO.out]; rfl, _, by rw [HSL.out]; exact H5.out, G1.out.turnAnd T5.out, q3.imp id fun e => ⟨_, e, by have := G1.out.size; first | omega | (simp; done) | (simp; omega)⟩⟩
      · have z3 : decide (64 ≤ L.length) = true := decide_eq_true (by omega)
        have z4 : decide ((64 : Int) ≤ (L.length : Int)) = true := decide_eq_true (by omega)
        have z5 : (L.length : Int) = 64 := by omega
        have HNO := Lib.hid (show L = stL L a bs by unfold stL stO; rw [hmb, hin]; simp [h64])
        have HNE := Lib.hid (show stO L a m = false by unfold stO; rw [hin]; simp [h64])
        clear hin
        go_wp2_with fail
        go_ret
        refine ⟨?_, _, HNO.out ▸ H1.out, G1.out.turnAnd (Turn.refl _ _), .inl rfl⟩
        rw [HNE.out]; rfl
end Go.Proofs.Ytlinlmimakealaa

namespace Go.Proofs.Ytlinlmimakealaa
open Go.RowKit

def lodL (s : MS) (L : List PT) (a n : Int) : List UInt8 := ovL (loadL 128 s.S a n) a.toNat L
def LoadInv (w1 wr : World) (B : Nat) (A : Option Addr) (m c k : Nat) (bs : List UInt8) (L : List PT) (t : Value) : Prop := ∃ i : Nat, t = .int .i64 (i : Int) ∧ i ≤ L.length ∧ Own wr B A m c (ovL bs k (L.take i)) ∧ Turn (BlkA A) w1 wr
theorem Own.blkA {w : World} {base n c : Nat} {A : Option Addr} {bs : List UInt8} (h : Own w base A n c bs) : ∀ k, BlkA A k → base ≤ k ∧ k < w.heap.size := by
  rintro k ⟨p, rfl, rfl⟩
  exact World.ownsRow.lt h.2.2 p.block rfl
theorem lod_in {s : MS} (hs : s.S.length = 1024) {a n : Int} (hin : inW 1024 a n = true) : (loadL 128 s.S a n).length = n.toNat := by
  obtain ⟨h1, h2, h3⟩ := inW_iff.1 hin
  unfold loadL
  rw [show (8 * 128 : Nat) = 1024 from rfl, hin, if_pos rfl, List.length_take, List.length_drop, hs]
  omega
theorem lod_no {s : MS} {a n : Int} (hin : inW 1024 a n = false) (L : List PT) : lodL s L a n = [] ∧ loadL 128 s.S a n = [] := by
  have h : loadL 128 s.S a n = [] := by unfold loadL; rw [show (8 * 128 : Nat) = 1024 from rfl, hin]; rfl
  refine ⟨?_, h⟩
  unfold lodL
  rw [h]
  exact List.eq_nil_of_length_eq_zero (ovL_length _ _ _)

set_option maxHeartbeats 2000000 in
theorem tx_load {w : World} {base t l : Nat} {x : MB} {s : MS} {L : List PT} {v : Value} (h : TX w base t l x s L v) (a n : Int) (hn : -9223372036854775808 ≤ n) (hn' : n ≤ 9223372036854775807) :
    Calls Try.prog 26 #[.pointer (some ⟨t, 0, none⟩), .int .i64 a, .int .i64 n] w fun e w' => ∃ A c, e = .returned (.tuple #[.slice A (loadM 128 a n) c, .int .i64 (errV (inW 1024 a n))]) ∧ Own w' w.heap.size A (loadM 128 a n) c (lodL s L a n) ∧ Grow w w' := by
  obtain ⟨Av, cv, rfl, hcv⟩ := h.row.form
  have H := Lib.hid h
  have c0 := h.blk.1.2 0 _ rfl
  have c2 := h.blk.1.2 2 _ rfl
  have hfew := h.held.few
  cases hin : inW 1024 a n with
  | false =>
    have HIN := Lib.hid hin
    have hm0 : loadM 128 a n = 0 := by unfold loadM; rw [show (8 * 128 : Nat) = 1024 from rfl, hin]; rfl
    have HL := Lib.hid (lod_no hin L (s := s)).1
    have HM := Lib.hid hm0
    clear h hin hm0
    go_enter Try.func26, Try.ntmps26
    go_wp2_with fail
    refine (pm_loadU H.out.lg.1 a n hn hn').mono ?_
    rintro e w1 ⟨A1, c1, rfl, -, g1⟩
    rw [show (8 * 128 : Nat) = 1024 from rfl, HIN.out, HM.out]
    have G1 := Lib.hid g1
    clear g1
    go_wp2_with fail
    go_ret2
    exact ⟨none, 0, by rw [HM.out]; rfl, by rw [HM.out, HL.out]; exact Own.nil _ _, G1.out⟩
  | true =>
    obtain ⟨h1, h2, h3⟩ := inW_iff.1 hin
    obtain ⟨k, rfl⟩ : ∃ k : Nat, a = (k : Int) := ⟨a.toNat, by omega⟩
    have HIN := Lib.hid hin
    have hm0 : loadM 128 k n = n.toNat := by unfold loadM; rw [show (8 * 128 : Nat) = 1024 from rfl, hin]; rfl
    obtain ⟨m, hm⟩ : ∃ m, m = n.toNat := ⟨_, rfl⟩
    have hkm : k + m ≤ 1024 := by omega
    rw [← hm] at hm0
    have HM := Lib.hid hm0
    obtain ⟨bs, hbs⟩ : ∃ bs, bs = loadL 128 s.S k n := ⟨_, rfl⟩
    have HLL := Lib.hid (show lodL s L k n = ovL bs k L by rw [hbs]; rfl)
    have HBL := Lib.hid (show bs.length = m by rw [hbs, hm]; exact lod_in h.ok.S hin)
    have HBS := Lib.hid hbs
    clear h hin hm0 h1 h2 h3 hm hbs
    go_enter Try.func26, Try.ntmps26
    go_wp2_with fail
    refine (pm_loadU H.out.lg.1 k n hn hn').mono ?_
    rintro e w1 ⟨A1, c1, rfl, o1, g1⟩
    rw [show (8 * 128 : Nat) = 1024 from rfl, HIN.out, HM.out]
    rw [HM.out, ← HBS.out] at o1
    have O1 := Lib.hid o1
    have G1 := Lib.hid g1
    have H1 := Lib.hid (H.out.keep g1)
    have HAB := Lib.hid o1.blkA
    obtain ⟨Ax, cx, ex, -, rx⟩ := H1.out.row.rp (by omega)
    injection ex with ex1 ex2 ex3
    subst ex1
    have RX1 := Lib.hid rx
    have HNA := Lib.hid (show 0 < L.length → ∀ p, Av = some p → ¬ BlkA A1 p.block from fun _ p hp q => by
      have q1 := (HAB.out _ q).1
      have q2 := (World.ownsRow.lt H.out.row p.block (by rw [hp]; rfl)).2
      omega)
    obtain ⟨N, hN⟩ : ∃ N, N = L.length := ⟨_, rfl⟩
    rw [← hN] at RX1 HNA hfew c2
    have d2 := g1.cell c2
    have HN := Lib.hid hN
    clear o1 g1 rx ex2 ex3 c0 c2 hcv hN
    go_wp2_with fail
    go_loopw [30] (fun t wr => LoadInv w1 wr w.heap.size A1 m c1 k bs L t) (fun t _ => N - (intOf t).toNat)
    case atStart => exact ⟨0, rfl, Nat.zero_le _, O1.out, Turn.refl _ _⟩
    case round =>
      obtain ⟨i, rfl, hi, ho, ht⟩ := hrel
      have HO := Lib.hid ho
      have HT := Lib.hid ht
      have hi' : i ≤ N := by have := HN.out; omega
      clear ho ht hi
      by_cases hlt : i < N
      · have R2 := RX1.out.turn HT.out HNA.out
        obtain ⟨b, o, r, hrk, rfl, hb, e0, e1⟩ := R2.at_ hlt
        obtain ⟨f1, f2, f3⟩ := H.out.held.fit r (List.mem_of_getElem? hrk)
        have HST := Lib.hid (ovL_step (bs := bs) (a := k) hrk)
        obtain ⟨pos, dat⟩ := r
        simp only at f1 f2 f3 e0 e1
        obtain ⟨q, rfl⟩ : ∃ q : Nat, pos = (q : Int) := ⟨pos.toNat, by omega⟩
        have hbz : b ≠ wr.heap.size := by omega
        have hq : q ≤ 1024 := by omega
        have hsz : dat.size ≤ 1024 := by omega
        clear hrk R2 f1 f2 f3
        go_wp2_with fail
        refine (over_c (HO.out.alloc _) k q dat (by omega) (by omega) hq hsz).mono ?_
        rintro e w3 ⟨rfl, o3, t3⟩
        have X : LoadInv w1 w3 w.heap.size A1 m c1 k bs L (.int .i64 ((i : Int) + 1)) := ⟨i + 1, by simp, by have := HN.out; omega, by rw [HST.out]; exact o3, HT.out.and ((Turn.grow ((Grow.refl _).alloc _) _).and t3)⟩
        have HX := Lib.hid X
        clear X o3 t3 e0 e1 hb hbz
        go_wp2_with fail
        go_roundw
        have e5 : wrap64 ((i : Int) + 1) = (i : Int) + 1 := IntWalk.wrap64_in _ (by omega)
        case rel => (try rw [e5]); first | exact HX.out | ((repeat apply Exists.intro); exact HX.out) | ((repeat apply Exists.intro); refine ⟨HX.out, ?_⟩; rfl)
        case measure => (have e5 : wrap64 ((i : Int) + 1) = (i : Int) + 1 := IntWalk.wrap64_in _ (by omega)); first | exact measF hlt | exact measFW hlt e5
      · have HE := Lib.hid (show ovL bs k (L.take i) = ovL bs k L by rw [List.take_of_length_le (by have := HN.out; omega)])
        go_wp2_with fail
        go_ret2
        refine ⟨A1, c1, by rw [HM.out]; rfl, ?_, G1.out.low (HT.out.low (fun i q => (HAB.out i q).1) G1.out.size)⟩
        rw [HLL.out, HM.out, ← HE.out]
        exact HO.out
end Go.Proofs.Ytlinlmimakealaa

namespace Go.Proofs.Ytlinlmimakealaa
open Go.RowKit

theorem eq_nilP (a : Option Addr) (l c : Nat) (w : World) : (binOp .eql 34 (.slice a l c) (.slice none 0 0)).run Try.prog w = .ok (.bool a.isNone) w := run_eql_slice_nil w 34 37 a l c Try.underlying34
theorem clone_pats {w : World} {A : Option Addr} {c : Nat} {L : List PT} (hr : RP w A L.length L) (hl : L.length ≤ 100000) :
    Calls Try.prog 31 #[.slice A L.length c] w fun e w' => ∃ A' c', e = .returned (.slice A' L.length c') ∧ OP w' w.heap.size (.slice A' L.length c') L ∧ Grow w w' := by
  rcases A with _ | a
  · have h0 : L = [] := by
      rcases Nat.eq_zero_or_pos L.length with h | h
      · exact List.eq_nil_of_length_eq_zero h
      · obtain ⟨_, _, h, _⟩ := hr.2.2.2 h; cases h
    subst h0
    have hq := fun (w : World) => eq_nilP none 0 c w
    go_enter Try.func31, Try.ntmps31
    go_wp2_with fail
    go_ret
    exact ⟨none, 0, rfl, OP.nil _ _, Grow.refl _⟩
  · have hq := fun (w : World) => eq_nilP (some a) L.length c w
    have HR := Lib.hid (show RP (w.alloc (.cells #[] 37)) (some a) L.length L from hr.keep ((Grow.refl w).alloc _))
    clear hr
    go_enter Try.func31, Try.ntmps31
    go_wp2_with (at_builtin; go_loud (refine wpList_appP rfl (.tmp 5) (.tmp 6) rfl w.heap.size _ [] rfl (World.ownsRow_made w #[] 0 (Nat.le_refl _) (by unfold maxLen; omega) rfl) _ (some a) c L L.length rfl rfl HR.out.2.2 (by simp; omega) (by simp) ?_; intro v1 w1 q1 q2 q3; clear q3; rw [List.nil_append] at q1))
    obtain ⟨A', c', rfl, -⟩ := q1.form
    go_ret
    exact ⟨A', c', rfl, q1, Below.grown ((Below.refl _ _).alloc (Nat.le_refl _) _) q2 (by simp) (fun k hk => by injection hk with hk; subst hk; exact Nat.le_refl _)⟩
theorem tx_patches {w : World} {base t l : Nat} {x : MB} {s : MS} {L : List PT} {v : Value} (h : TX w base t l x s L v) :
    Calls Try.prog 10 #[.pointer (some ⟨t, 0, none⟩)] w fun e w' => ∃ A c, e = .returned (.slice A L.length c) ∧ OP w' w.heap.size (.slice A L.length c) L ∧ Grow w w' := by
  have hfew := h.held.few
  obtain ⟨Av, cv, rfl, -, rx⟩ := h.row.rp (by omega)
  have c2 := h.blk.1.2 2 _ rfl
  have R := Lib.hid rx
  clear rx h
  go_enter Try.func10, Try.ntmps10
  go_wp2_with fail
  refine (clone_pats R.out (by omega)).mono ?_
  rintro e w1 ⟨A1, c1, rfl, o1, g1⟩
  have O1 := Lib.hid o1
  have G1 := Lib.hid g1
  clear o1 g1
  go_wp2_with fail
  go_ret
  exact ⟨A1, c1, rfl, O1.out, G1.out⟩
theorem tx_drop {w : World} {base t l : Nat} {x : MB} {s : MS} {L : List PT} {v : Value} (h : TX w base t l x s L v) :
    Calls Try.prog 25 #[.pointer (some ⟨t, 0, none⟩)] w fun e w' => e = .returned (.tuple #[]) ∧ TX w' base t l x s [] (.slice none 0 0) ∧ Turn (fun k => k = t) w w' := by
  have H := Lib.hid h
  have f := h.blk.2 2 (by simp)
  have d := h.blk.1.2 2 _ rfl
  clear h
  go_enter Try.func25, Try.ntmps25
  go_wp2_with fail
  go_end0
  exact ⟨rfl, H.out.put (OP.nil _ _) (Turn.refl _ _) (.inr fun g hg => by cases hg) Held.nil, Turn.setCell (F := fun k => k = t) _ (p := ⟨t, 2, none⟩) rfl _⟩
set_option maxHeartbeats 2000000 in
theorem tx_commit {w : World} {base t l : Nat} {x : MB} {s : MS} {L : List PT} {v : Value} (h : TX w base t l x s L v) :
    Calls Try.prog 15 #[.pointer (some ⟨t, 0, none⟩)] w fun e w' => e = .returned (.int .i64 (cmE s L)) ∧ ∃ v', TX w' base t l x (cmS s L) (cmL s L) v' ∧ Turn (fun k => x.F k ∨ k = t) w w' ∧ (v'.ownBlock = none ∨ v' = v) := by
  obtain ⟨Av, cv, rfl, hcv⟩ := h.row.form
  have H := Lib.hid h
  have c1 := h.blk.1.2 1 _ rfl
  have c2 := h.blk.1.2 2 _ rfl
  have hfew := h.held.few
  obtain ⟨Ax, cx, ex, -, rx⟩ := h.row.rp (by omega)
  injection ex with ex1 ex2 ex3
  subst ex1
  have R := Lib.hid rx
  clear rx ex2 ex3 hcv h
  by_cases h0 : L.length = 0
  · have HCE := Lib.hid (show cmE s L = 0 by unfold cmE; rw [if_pos h0])
    have HCS := Lib.hid (show cmS s L = s by unfold cmS; rw [if_pos h0])
    have HCL := Lib.hid (show cmL s L = L by unfold cmL; rw [if_pos h0]; exact (List.eq_nil_of_length_eq_zero h0).symm)
    rw [h0] at c2
    go_enter Try.func15, Try.ntmps15
    go_wp2_with fail
    go_ret
    exact ⟨by rw [HCE.out]; rfl, _, by rw [HCS.out, HCL.out]; exact H.out, Turn.refl _ _, .inr rfl⟩
  · have z0 : ¬ (L.length : Int) = 0 := by omega
    have z1 : decide ((L.length : Int) = 0) = false := decide_eq_false z0
    obtain ⟨E, hE⟩ : ∃ E, E = apE s.S L := ⟨_, rfl⟩
    have HE := Lib.hid hE
    obtain ⟨N, hN⟩ : ∃ N, N = L.length := ⟨_, rfl⟩
    rw [← hN] at R c2 z0 z1
    have HN := Lib.hid hN
    clear hE hN
    go_enter Try.func15, Try.ntmps15
    go_wp2_with fail
    go_region_held3 (fun w' => w'.cell? ⟨t, 1, none⟩ = some (.pointer (some ⟨l, 0, none⟩)) ∧ w'.cell? ⟨t, 2, none⟩ = some (.slice Av N cv)) (first | exact ⟨c1, c2⟩ | exact hsA) ((first
      | (go_at_call 37; go_loud (refine (pl_append (H.out.lg.keep ?_) (R.out.keep ?_) H.out.held.wide).mono ?_; (repeat (first | exact Grow.refl _ | refine Grow.drew ?_ | refine Grow.drewN ?_ _)); rintro e w5 ⟨rfl, h5, t5'⟩; have t5 : Turn x.F w w5 := (Turn.grow (show Grow w _ by (repeat (first | exact Grow.refl _ | refine Grow.drew ?_ | refine Grow.drewN ?_ _))) x.F).and t5'; have hsA := And.intro (t5.cell' c1 H.out.xt) (t5.cell' c2 H.out.xt); rw [← HE.out]; clear t5'))))
    all_goals
      have H5 := Lib.hid (H.out.mem h5 t5)
      have T5 := Lib.hid t5
      have k1 := hsA.1
      clear h5 t5 hsA c1 c2
      by_cases hE0 : E = 0
      · have HCE := Lib.hid (show cmE s L = 0 by unfold cmE; rw [if_neg h0, ← HE.out, hE0])
        have HCS := Lib.hid (show cmS s L = (s.append L).redo by unfold cmS; rw [if_neg h0, if_pos (by rw [← HE.out, hE0])])
        have HCL := Lib.hid (show cmL s L = [] by unfold cmL; rw [if_neg h0, if_pos (by rw [← HE.out, hE0])])
        subst hE0
        go_wp2_with fail
        refine (pl_redo H5.out.lg).mono ?_
        rintro e w7 ⟨rfl, h7, t7⟩
        have H7 := Lib.hid (H5.out.mem h7 t7)
        have T7 := Lib.hid ((T5.out.and t7).mono (G := fun k => x.F k ∨ k = t) fun i q => .inl q)
        clear h7 t7 k1
        go_wp2_with fail
        refine (tx_drop H7.out).mono ?_
        rintro e w8 ⟨rfl, h8, t8⟩
        have H8 := Lib.hid h8
        have T8 := Lib.hid (T7.out.and (t8.mono (G := fun k => x.F k ∨ k = t) fun i q => .inr q))
        clear h8 t8
        go_wp2_with fail
        go_ret
        exact ⟨by rw [HCE.out]; rfl, _, by rw [HCS.out, HCL.out]; exact H8.out, T8.out, .inl rfl⟩
      · have HCE := Lib.hid (show cmE s L = E by unfold cmE; rw [if_neg h0, ← HE.out])
        have HCS := Lib.hid (show cmS s L = s.append L by unfold cmS; rw [if_neg h0, if_neg (by rw [← HE.out]; exact hE0)]; rw [MS.append, if_neg (by rw [← HE.out]; exact hE0)])
        have HCL := Lib.hid (show cmL s L = L by unfold cmL; rw [if_neg h0, if_neg (by rw [← HE.out]; exact hE0)])
        have z2 : decide (E = 0) = false := decide_eq_false hE0
        go_wp2_with fail
        go_ret
        exact ⟨by rw [HCE.out]; rfl, _, by rw [HCS.out, HCL.out]; exact H5.out, T5.out.mono fun i q => .inl q, .inr rfl⟩
end Go.Proofs.Ytlinlmimakealaa

namespace Go.Proofs.Ytlinlmimakealaa
open Go.RowKit

set_option maxHeartbeats 4000000 in
set_option maxRecDepth 4000 in
theorem rx_store {w : World} {base t l : Nat} {x : MB} {s : MS} {L : List PT} {v : Value} (h : RX w base t l x s L v) (hb : base ≤ w.heap.size) {B : Option Addr} {m c : Nat} {bs : List UInt8} (hs : Sl w B m bs) (hB : 0 < m → ∀ p, B = some p → v.ownBlock ≠ some p.block ∧ p.block ≠ t) (a : Int) :
    Calls Try.prog 48 #[.pointer (some ⟨t, 0, none⟩), .int .i64 a, .slice B m c] w fun e w' => e = .returned (.int .i64 (errV (stO L a m))) ∧ ∃ v', RX w' base t l x s (stL L a bs) v' ∧ Turn (fun i => i = t ∨ v.ownBlock = some i) w w' ∧ (v'.ownBlock = v.ownBlock ∨ ∃ g, v'.ownBlock = some g ∧ w.heap.size ≤ g) := by
  obtain ⟨Av, cv, rfl, hcv⟩ := h.row.form
  have HELD := Lib.hid (h.held)
  have hmb := hs.1
  have H := Lib.hid h
  have HS0 := Lib.hid hs
  have HBB := Lib.hid hB
  have c2 := h.blk.1.2 2 _ rfl
  have c0 := h.blk.1.2 0 _ rfl
  have hfew := h.held.few
  have hm2 := hs.2.1
  clear h hs hB
  go_enter Try.func48, Try.ntmps48
  go_wp2_with fail
  refine (rm_within H.out.lg.1 a (m : Nat)).mono ?_
  rintro e w1 ⟨rfl, rfl⟩
  have H1 := H
  have HS := HS0
  have G1 := Lib.hid (Grow.refl w)
  have HB1 := Lib.hid hb
  have d2 := c2
  have d0 := (H1.out.blk.2 2 (by simp))
  rw [show (8 * 128 : Nat) = 1024 from rfl]
  cases hin : inW 1024 a (m : Int) with
  | false =>
    have HNO := Lib.hid (show L = stL L a bs by unfold stL stO; rw [hmb, hin]; simp)
    have HNE := Lib.hid (show stO L a m = false by unfold stO; rw [hin]; simp)
    clear hin
    go_wp2_with fail
    go_ret
    refine ⟨?_, _, HNO.out ▸ H1.out, G1.out.turnAnd (Turn.refl _ _), .inl rfl⟩
    rw [HNE.out]; rfl
  | true =>
    by_cases h256 : 256 < m
    · have z1 : decide (256 < m) = true := decide_eq_true h256
      have z2 : decide ((256 : Int) < (m : Int)) = true := decide_eq_true (by omega)
      have HNO := Lib.hid (show L = stL L a bs by unfold stL stO; rw [hmb, hin]; simp [Nat.not_le.2 h256])
      have HNE := Lib.hid (show stO L a m = false by unfold stO; rw [hin]; simp [Nat.not_le.2 h256])
      clear hin
      go_wp2_with fail
      go_ret
      refine ⟨?_, _, HNO.out ▸ H1.out, G1.out.turnAnd (Turn.refl _ _), .inl rfl⟩
      rw [HNE.out]; rfl
    · have z1 : decide (256 < m) = false := decide_eq_false h256
      have z2 : decide ((256 : Int) < (m : Int)) = false := decide_eq_false (by omega)
      by_cases h64 : L.length < 64
      · have z3 : decide (64 ≤ L.length) = false := decide_eq_false (by omega)
        have z4 : decide ((64 : Int) ≤ (L.length : Int)) = false := decide_eq_false (by omega)
        have z5 : ¬ (L.length : Int) = 64 := by omega
        have HSO := Lib.hid (show stO L a m = true by unfold stO; rw [hin]; simp [Nat.not_lt.1 h256, h64])
        have HSL := Lib.hid (show stL L a bs = L ++ [⟨a, ⟨bs.toArray⟩⟩] by unfold stL; rw [hmb, HSO.out]; rfl)
        have HELD := Lib.hid (show Held (L ++ [⟨a, ⟨bs.toArray⟩⟩]) by rw [← HSL.out]; exact H1.out.held.store a bs)
        have dA := ((Grow.refl w).alloc (.cells #[.int .i64 a, .string ⟨bs.toArray⟩] 37)).cell d2
        have conv_c := fun {w' : World} (hS : Sl w' B m bs) (c : Nat) => conv_s (c := c) hS
        clear hin
        go_wp2_with fail
        have HSS := HS.out
        refine wp_region_held_drew (S := fun w' => Sl w' B m bs) (by kernel_rfl) ?_ (fun hHeld => ?_)
        · exact HSS
        refine wpAnyH_take (i := 0) (oi := _) (v := ?_) rfl (by kernel_rfl) (by kernel_rfl) (by kernel_rfl) (fun _ _ _ h => h) (Or.inl ⟨by rfl, ?_⟩) (by assumption) ?_
        rotate_left
        · (intro w hSw; (try dsimp only at hSw); go_simp; (try with_reducible rfl))
        simp only [Act.put, List.setIfInBounds_toArray]
        refine wpAnyH_take (i := 1) (oi := _) (v := ?_) rfl (by kernel_rfl) (by kernel_rfl) (by kernel_rfl) (fun _ _ _ h => h) (Or.inl ⟨by rfl, ?_⟩) (by assumption) ?_
        rotate_left
        · (intro w hSw; (try dsimp only at hSw); go_simp; (try with_reducible rfl))
        simp only [Act.put]
        refine wpAnyH_take (i := 2) (oi := _) (v := ?_) rfl (by kernel_rfl) (by kernel_rfl) (by kernel_rfl) (fun _ _ _ h => h) (Or.inl ⟨by rfl, ?_⟩) (by assumption) ?_
        rotate_left
        · (intro w hSw; (try dsimp only at hSw); go_simp; (try with_reducible rfl))
        simp only [Act.put]
        refine wpAnyH_take (i := 3) (oi := _) (v := ?_) rfl (by kernel_rfl) (by kernel_rfl) (by kernel_rfl) (fun _ _ _ h => h) (Or.inl ⟨by rfl, ?_⟩) (by assumption) ?_
        rotate_left
        · (intro w hSw; (try dsimp only at hSw); go_simp; (try with_reducible rfl))
        simp only [Act.put]
        refine wpAnyH_take (i := 5) (oi := _) (v := ?_) rfl (by kernel_rfl) (by kernel_rfl) (by kernel_rfl) (fun _ _ _ h => h) (Or.inl ⟨by rfl, ?_⟩) (by assumption) ?_
        rotate_left
        · (intro w hSw; (try dsimp only at hSw); go_simp; (try with_reducible rfl))
        simp only [Act.put]
        refine wpAnyH_take (i := 6) (oi := _) (v := ?_) rfl (by kernel_rfl) (by kernel_rfl) (by kernel_rfl) (fun _ _ _ h => h) (Or.inl ⟨by rfl, ?_⟩) (by assumption) ?_
        rotate_left
        · (intro w hSw; (try dsimp only at hSw); go_simp; (try with_reducible rfl))
        simp only [Act.put]
        refine wpAnyH_take (i := 7) (oi := _) (v := .string ⟨bs.toArray⟩) rfl (by kernel_rfl) (by kernel_rfl) (by kernel_rfl) (fun _ _ _ h => h) (Or.inl ⟨by rfl, ?_⟩) (by assumption) ?_
        · (intro w hSw; (try dsimp only at hSw); have kc := conv_c hSw c; go_simp)
        simp only [Act.put]
        refine wpAnyH_take (i := 8) (oi := _) (v := ?_) rfl (by kernel_rfl) (by kernel_rfl) (by kernel_rfl) (fun _ _ _ h => h) (Or.inl ⟨by rfl, ?_⟩) (by assumption) ?_
        rotate_left
        · (intro w hSw; (try dsimp only at hSw); go_simp; (try with_reducible rfl))
        simp only [Act.put]
        refine wpAnyH_ready (rs := [4, 9]) (by kernel_rfl) (by simp) ?_
        refine AllReadyH.cons (o := _) rfl (fun K hK => ?_) (AllReadyH.cons (o := _) rfl (fun K hK => ?_) AllReadyH.nil)
        · go_simp
          refine hK.out _ _ (by assumption) (fun hHeld4 => ?_)
          clear hK K
          refine wpAnyH_ready (rs := [9]) (by kernel_rfl) (by simp) ?_
          refine AllReadyH.cons (o := _) rfl (fun K hK => ?_) AllReadyH.nil
          go_simp
          refine hK.out _ _ (Sl.keep (by assumption) ((Grow.refl _).alloc _)) (fun hHeld9 => ?_)
          clear hK K
          refine wpAnyH_ready (rs := [10]) (by kernel_rfl) (by simp) ?_
          refine AllReadyH.cons (o := _) rfl (fun K hK => ?_) AllReadyH.nil
          refine step_appP rfl (.tmp 35) (.tmp 40) rfl base _ L rfl ⟨a, ⟨bs.toArray⟩⟩ _ (some ⟨w.heap.size, 0, none⟩) (by first | rfl | simp) (Rd.new1 (w := w) _ (by (repeat (first | exact Grow.refl _ | refine Grow.drew ?_ | refine Grow.drewN ?_ _ | refine Grow.alloc ?_ _)))) (H1.out.row.keep (by (repeat (first | exact Grow.refl _ | refine Grow.drew ?_ | refine Grow.drewN ?_ _ | refine Grow.alloc ?_ _)))) (by have := H1.out.held.few; omega) (by have := HB1.out; first | omega | (simp; omega)) ?_
          intro v5 w5 q1 q2 q3
          obtain ⟨A5, k5, e5v, -⟩ := q1.form
          rw [show (L ++ [(⟨a, ⟨bs.toArray⟩⟩ : PT)]).length = L.length + 1 by simp] at e5v
          subst e5v
          have g5 : Turn (fun i => (Value.slice Av L.length cv).ownBlock = some i) w w5 := (Turn.grow (show Grow w _ by (repeat (first | exact Grow.refl _ | refine Grow.drew ?_ | refine Grow.drewN ?_ _ | refine Grow.alloc ?_ _))) _).and (Turn.grown q2 (fun _ h => h))
          have H5 := Lib.hid (H1.out.put q1 g5 (q3.imp id fun e g hg => by rw [e] at hg; injection hg with hg; have hz : w.heap.size ≤ g := (by have hg' : w.heap.size + 1 = g := (by first | exact hg | simpa using hg); omega); exact hz) HELD.out)
          have f5 := (H1.out.blk.turn g5 (fun q => (H1.out.vx t q).2.1 rfl)).2 2 (by simp)
          have d5 := (H1.out.blk.turn g5 (fun q => (H1.out.vx t q).2.1 rfl)).1.2 2 _ rfl
          have HS5 := HS.out.turn' g5 (fun h0 p hp q => (HBB.out h0 p hp).1 q)
          refine hK.out _ _ HS5 (fun hHeld5 => ?_)
          clear hK K
          refine wpAnyH_take (i := 11) (oi := _) (v := ?_) rfl (by kernel_rfl) (by kernel_rfl) (by kernel_rfl) (fun _ _ _ h => h) (Or.inl ⟨by rfl, ?_⟩) (by assumption) ?_
          rotate_left
          · (intro w hSw; (try dsimp only at hSw); go_simp; (try with_reducible rfl))
          simp only [Act.put]
          refine wpAnyH_take (i := 12) (oi := _) (v := ?_) rfl (by kernel_rfl) (by kernel_rfl) (by kernel_rfl) (fun _ _ _ h => h) (Or.inl ⟨by rfl, ?_⟩) (by assumption) ?_
          rotate_left
          · (intro w hSw; (try dsimp only at hSw); go_simp; (try with_reducible rfl))
          simp only [Act.put]
          refine wpAnyH_ready (rs := [13]) (by kernel_rfl) (by simp) ?_
          refine AllReadyH.cons (o := _) rfl (fun K hK => ?_) AllReadyH.nil
          go_simp
          refine hK.out _ _ (HS5.turn' (Turn.setCell (F := fun i => i = t) w5 (p := ⟨t, 2, none⟩) rfl _) (fun h0 p hp q => (HBB.out h0 p hp).2 q)) (fun hHeld6 => ?_)
          clear hK K
          refine wpAnyH_done (by kernel_rfl) ?_ _
          have T5 := Lib.hid (Turn.set (Turn.mono g5 (G := fun i => i = t ∨ (Value.slice Av L.length cv).ownBlock = some i) (fun i h => .inr h)) ⟨t, 2, none⟩ (.inl rfl) (.slice A5 (L.length + 1) k5))
          clear q2 f5 d5 HS5 q1
          go_wp2_with fail
          go_ret
          exact ⟨by rw [HSO.out]; rfl, _, by rw [HSL.out]; exact H5.out, G1.out.turnAnd T5.out, q3.imp id fun e => ⟨_, e, by have := G1.out.size; first | omega | (simp; done) | (simp; omega)⟩⟩
        · go_simp
          refine hK.out _ _ (Sl.keep (by assumption) ((Grow.refl _).alloc _)) (fun hHeld9 => ?_)
          clear hK K
          refine wpAnyH_ready (rs := [4]) (by kernel_rfl) (by simp) ?_
          refine AllReadyH.cons (o := _) rfl (fun K hK => ?_) AllReadyH.nil
          go_simp
          refine hK.out _ _ (by assumption) (fun hHeld4 => ?_)
          clear hK K
          refine wpAnyH_ready (rs := [10]) (by kernel_rfl) (by simp) ?_
          refine AllReadyH.cons (o := _) rfl (fun K hK => ?_) AllReadyH.nil
          refine step_appP rfl (.tmp 35) (.tmp 40) rfl base _ L rfl ⟨a, ⟨bs.toArray⟩⟩ _ (some ⟨w.heap.size, 0, none⟩) (by first | rfl | simp) (Rd.new1 (w := w) _ (by (repeat (first | exact Grow.refl _ | refine Grow.drew ?_ | refine Grow.drewN ?_ _ | refine Grow.alloc ?_ _)))) (H1.out.row.keep (by (repeat (first | exact Grow.refl _ | refine Grow.drew ?_ | refine Grow.drewN ?_ _ | refine Grow.alloc ?_ _)))) (by have := H1.out.held.few; omega) (by have := HB1.out; first | omega | (simp; omega)) ?_
          intro v5 w5 q1 q2 q3
          obtain ⟨A5, k5, e5v, -⟩ := q1.form
          rw [show (L ++ [(⟨a, ⟨bs.toArray⟩⟩ : PT)]).length = L.length + 1 by simp] at e5v
          subst e5v
          have g5 : Turn (fun i => (Value.slice Av L.length cv).ownBlock = some i) w w5 := (Turn.grow (show Grow w _ by (repeat (first | exact Grow.refl _ | refine Grow.drew ?_ | refine Grow.drewN ?_ _ | refine Grow.alloc ?_ _))) _).and (Turn.grown q2 (fun _ h => h))
          have H5 := Lib.hid (H1.out.put q1 g5 (q3.imp id fun e g hg => by rw [e] at hg; injection hg with hg; have hz : w.heap.size ≤ g := (by have hg' : w.heap.size + 1 = g := (by first | exact hg | simpa using hg); omega); exact hz) HELD.out)
          have f5 := (H1.out.blk.turn g5 (fun q => (H1.out.vx t q).2.1 rfl)).2 2 (by simp)
          have d5 := (H1.out.blk.turn g5 (fun q => (H1.out.vx t q).2.1 rfl)).1.2 2 _ rfl
          have HS5 := HS.out.turn' g5 (fun h0 p hp q => (HBB.out h0 p hp).1 q)
          refine hK.out _ _ HS5 (fun hHeld5 => ?_)
          clear hK K
          refine wpAnyH_take (i := 11) (oi := _) (v := ?_) rfl (by kernel_rfl) (by kernel_rfl) (by kernel_rfl) (fun _ _ _ h => h) (Or.inl ⟨by rfl, ?_⟩) (by assumption) ?_
          rotate_left
          · (intro w hSw; (try dsimp only at hSw); go_simp; (try with_reducible rfl))
          simp only [Act.put]
          refine wpAnyH_take (i := 12) (oi := _) (v := ?_) rfl (by kernel_rfl) (by kernel_rfl) (by kernel_rfl) (fun _ _ _ h => h) (Or.inl ⟨by rfl, ?_⟩) (by assumption) ?_
          rotate_left
          · (intro w hSw; (try dsimp only at hSw); go_simp; (try with_reducible rfl))
          simp only [Act.put]
          refine wpAnyH_ready (rs := [13]) (by kernel_rfl) (by simp) ?_
          refine AllReadyH.cons (o := _) rfl (fun K hK => ?_) AllReadyH.nil
          go_simp
          refine hK.out _ _ (HS5.turn' (Turn.setCell (F := fun i => i = t) w5 (p := ⟨t, 2, none⟩) rfl _) (fun h0 p hp q => (HBB.out h0 p hp).2 q)) (fun hHeld6 => ?_)
          clear hK K
          refine wpAnyH_done (by kernel_rfl) ?_ _
          have T5 := Lib.hid (Turn.set (Turn.mono g5 (G := fun i => i = t ∨ (Value.slice Av L.length cv).ownBlock = some i) (fun i h => .inr h)) ⟨t, 2, none⟩ (.inl rfl) (.slice A5 (L.length + 1) k5))
          clear q2 f5 d5 HS5 q1
          go_wp2_with fail
          go_ret
          exact ⟨by rw [HSO.out]; rfl, _, by rw [HSL.out]; exact H5.out, G1.out.turnAnd T5.out, q3.imp id fun e => ⟨_, e, by have := G1.out.size; first | omega | (simp; done) | (simp; omega)⟩⟩
      · have z3 : decide (64 ≤ L.length) = true := decide_eq_true (by omega)
        have z4 : decide ((64 : Int) ≤ (L.length : Int)) = true := decide_eq_true (by omega)
        have z5 : (L.length : Int) = 64 := by omega
        have HNO := Lib.hid (show L = stL L a bs by unfold stL stO; rw [hmb, hin]; simp [h64])
        have HNE := Lib.hid (show stO L a m = false by unfold stO; rw [hin]; simp [h64])
        clear hin
        go_wp2_with fail
        go_ret
        refine ⟨?_, _, HNO.out ▸ H1.out, G1.out.turnAnd (Turn.refl _ _), .inl rfl⟩
        rw [HNE.out]; rfl
end Go.Proofs.Ytlinlmimakealaa
