/- commonslaw08.lives. No statement of the seat is proved here. -/
import Derived.Test.YtncjfljmnkfghaaZ08
import Derived.Test.YtncjfljmnkfghaaZ13
import Derived.Test.YtncjfljmnkfghaaZ14
import Derived.Test.YtncjfljmnkfghaaZ06
import Derived.Test.YtncjfljmnkfghaaZ11
namespace Go.Proofs.Ytncjfljmnkfghaa
open Go.RowKit

theorem RP.lit (w : World) (t : TypeId) (p : PT) : RP (w.alloc (.cells #[.int .i64 p.pos, .string p.dat] t)) (some ⟨w.heap.size, 0, none⟩) 1 [p] :=
  ⟨rfl, by omega, by have := Rd.litP w t (pcs [p]) 2 1 rfl; rw [World.size_alloc]; exact this⟩

/-- The memory as it is made. -/
def fresh : MS := ⟨List.replicate (8 * 128) 0, List.replicate (8 * 128) 0, List.replicate 128 false⟩
theorem fresh_ok : fresh.ok := ⟨List.length_replicate, List.length_replicate, List.length_replicate⟩
theorem fresh_still : fresh.still := rfl
theorem fresh_log : lgE fresh.S = 0 ∧ lgL fresh.S = [] ∧ lgU fresh.S = 0 := by
  have e : fresh.S = List.replicate 512 0 ++ (leB (0 : Int).toNat 8 ++ List.replicate 504 0) := by
    rw [show leB (0 : Int).toNat 8 = List.replicate 8 0 from rfl, List.replicate_append_replicate, List.replicate_append_replicate]; rfl
  have g := (get_mid (bs := fresh.S) (a := 512) (wd := 8) e List.length_replicate (by decide) (by decide)).1
  have g1 : getN fresh.S 512 8 = 0 := g
  have h : lgE fresh.S = 0 := by rw [lgE, g1]; rfl
  have hB : lgB fresh.S = [] := by rw [lgB, h]; rfl
  exact ⟨h, by rw [lgL, hB, rc_nil.1], by rw [lgU, hB, rc_nil.2]⟩
def pX : PT := ⟨3, ⟨#[120]⟩⟩
def pY : PT := ⟨258, ⟨#[5]⟩⟩
theorem encP_pX : (encP [pX]).length = 16 := by rw [encP_length]; rfl
theorem encP_pY : (encP [pY]).length = 16 ∧ (encP [pY]).take 9 = [1, 0, 2, 1, 0, 0, 1, 0, 5] ∧ (encP [pY]).drop 13 = [0, 0, 0] := by
  have hb : (bodyP [pY]).length = 9 := rfl
  have hs : (sumB (bodyP [pY])).length = 13 := by rw [sumB_length, hb]
  refine ⟨by rw [encP_length]; rfl, ?_, ?_⟩
  · rw [encP, sumB, List.append_assoc, List.take_left' hb]; rfl
  · rw [encP, List.drop_left' hs, hs]; rfl
theorem getD_one {S : List UInt8} {i : Nat} (h : i < S.length) : (S.drop i).take 1 = [S.getD i 0] := by
  rw [List.drop_eq_getElem_cons h, List.getD_eq_getElem?_getD, List.getElem?_eq_getElem h]; rfl
theorem live8 : apE fresh.S [pX] = 0 ∧ (lgL (fresh.append [pX]).S).length = 1 ∧ ((fresh.append [pX]).redo.T.drop 3).take 1 = [120] ∧ lgE (fresh.append [pX]).redo.S = 0 := by
  have h0 : apE fresh.S [pX] = 0 := apE_iff.2 ⟨by decide, by rw [fresh_log.2.2, encP_pX]; omega⟩
  obtain ⟨h1, h2, h3, -⟩ := append_is fresh_ok (MS.still_cov fresh_still) h0
  rw [fresh_log.2.1, List.nil_append] at h3
  obtain ⟨r1, r2, r3⟩ := redo_is h1 (MS.still_cov h2)
  refine ⟨h0, by rw [h3]; rfl, ?_, ?_⟩
  · rw [← show (fresh.append [pX]).redo.S = (fresh.append [pX]).redo.T from r2, getD_one (by rw [r1.S]; omega), r3, h3]
    have e : [[pX]].flatten.foldl patS (fresh.append [pX]).S = putL (fresh.append [pX]).S 3 [120] := rfl
    rw [e, putL_get _ _ _ _ (by rw [putL_length, h1.S]; decide), if_neg (by omega), putL_get _ _ _ _ (by rw [h1.S]; decide), if_pos (by decide)]
    rfl
  · rw [r3, h3]
    have e : [[pX]].flatten.foldl patS (fresh.append [pX]).S = putL (fresh.append [pX]).S 3 [120] := rfl
    rw [e]
    exact lgE_wiped (by rw [putL_length]; exact h1.S)

set_option maxHeartbeats 4000000 in
set_option maxRecDepth 4000 in
theorem lives8 (w : World) : Calls Try.prog 16 #[] w fun e w' => e = .returned (.bool true) ∧ Grow w w' := by
  have hY := encP_pY
  obtain ⟨bY, hbY⟩ : ∃ b, b = encP [pY] := ⟨_, rfl⟩
  rw [← hbY] at hY
  obtain ⟨hY1, hY2, hY3⟩ := hY
  have HL := Lib.hid live8
  obtain ⟨s1, hs1⟩ : ∃ s1, s1 = fresh.append [pX] := ⟨_, rfl⟩
  rw [← hs1] at HL
  have HS1 := Lib.hid hs1
  have HBY := Lib.hid hbY
  have HT9 := Lib.hid hY2
  have HD13 := Lib.hid hY3
  clear hbY hs1 hY2 hY3
  go_enter Try.func16, Try.ntmps16
  go_wp2_with fail
  refine (pl_encode (RP.lit w _ pY) (fun p hp => by simp at hp; subst hp; exact ⟨by decide, by decide⟩)).mono ?_
  rintro e w1 (⟨hm, A1, c1, rfl, o1, g1⟩ | ⟨hm, -, -⟩)
  case inr => exact absurd hm (by decide)
  rw [← HBY.out, hY1] at o1 ⊢
  have s1' := o1.sl
  have G1 : Grow w w1 := ((Grow.refl w).alloc _).trans g1
  have hc1 := o1.cap
  have st := s1'.take (k := 9) (by omega)
  have sd := s1'.drop (k := 13) (by omega) hc1
  rw [HT9.out] at st
  rw [HD13.out, if_neg (by omega)] at sd
  obtain ⟨gb, hA1, -, -⟩ := o1.row (by omega)
  subst hA1
  have ha : (some (⟨gb, 0, none⟩ : Addr)).map (·.add 13) = some ⟨gb, 13, none⟩ := by simp [Addr.add_lit]
  rw [ha] at sd
  have i1 : 9 ≤ c1 := by omega
  have i2 : 13 ≤ c1 := by omega
  clear o1 g1 s1' hm hY1 ha
  go_wp2_with fail
  refine (same_yes (st.alloc _) (Sl.lit w1 _ _ [1, 0, 2, 1, 0, 0, 1, 0, 5] 9 rfl rfl (by omega)) rfl).mono ?_
  rintro e w2 ⟨rfl, k2, hw2⟩
  replace sd : Sl w2 (some ⟨gb, 13, none⟩) 3 [0, 0, 0] := by rw [hw2]; exact (sd.alloc _).drewN k2
  replace G1 : Grow w w2 := by rw [hw2]; exact (G1.alloc _).drewN k2
  clear st hw2
  go_wp2_with fail
  refine (same_yes (sd.alloc _) (Sl.lit w2 _ _ [0, 0, 0] 3 rfl rfl (by omega)) rfl).mono ?_
  rintro e w3 ⟨rfl, k3, hw3⟩
  replace G1 : Grow w w3 := by rw [hw3]; exact (G1.alloc _).drewN k3
  clear sd hw3
  go_wp2_with fail
  refine (pm_new_yes 128 (by decide) w3).mono ?_
  rintro e w4 ⟨x, rfl, hP, hx, g4⟩
  go_wp2_with fail
  refine (pl_new hP 512 512).mono ?_
  rintro e w5 (⟨hm, -, -⟩ | ⟨-, l, rfl, hl, hb, g5⟩)
  case inl => exact absurd hm (by decide)
  have H5 : LG w5 l x fresh := ⟨hP.keep g5, hb, fun q => by have := hP.lt l q; omega⟩
  have hx5 : ∀ k, x.F k → w.heap.size ≤ k := fun k hk => Nat.le_trans G1.size (hx k hk)
  have G5 : Grow w w5 := (G1.trans g4).trans g5
  clear hP hx g4 hl hb g5 G1
  go_wp2_with fail
  refine (pl_append (H5.keep ((Grow.refl _).alloc _)) (RP.lit w5 _ pX) (fun p hp => by simp at hp; subst hp; exact ⟨by decide, by decide⟩)).mono ?_
  rintro e w6 ⟨rfl, H6, t6⟩
  rw [HL.out.1]
  rw [← HS1.out] at H6
  replace G5 : Grow w w6 := (G5.alloc _).low (t6.low hx5 (G5.alloc _).size)
  clear H5 t6
  go_wp2_with fail
  refine (pl_redo H6).mono ?_
  rintro e w7 ⟨rfl, H7, t7⟩
  rw [HL.out.2.1]
  replace G5 : Grow w w7 := G5.low (t7.low hx5 G5.size)
  clear H6 t7
  go_wp2_with fail
  refine (pm_lasts H7.1 3 1 (by decide)).mono ?_
  rintro e w8 ⟨A8, c8, rfl, o8, g8⟩
  rw [HL.out.2.2.1] at o8
  have cv := conv_s (c := c8) o8.sl
  have H8 := H7.keep g8
  replace G5 : Grow w w8 := G5.trans g8
  clear H7 g8 o8 hx5
  go_wp2_with fail
  refine (pl_end H8).mono ?_
  rintro e w9 ⟨rfl, g9⟩
  rw [HL.out.2.2.2]
  have G := Lib.hid (G5.trans g9)
  clear H8 g9 G5 cv
  go_wp2_with fail
  go_ret
  exact ⟨rfl, G.out⟩
end Go.Proofs.Ytncjfljmnkfghaa
