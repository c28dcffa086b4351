/- The walk of the statement NumOwns. -/
import Derived.Test.YtjbdabjkgpamnaaLaws1c
namespace Go.Proofs.Ytjbdabjkgpamnaa
open Go.RowKit

/-- The room: a row of 130 cells whose first are the bytes cs, and of those behind the first k are 77. -/
def Room (w : World) (g : Nat) (cs : List UInt8) (k : Nat) : Prop :=
  ∃ cur : Array Value, w.heap[g]? = some (.cells cur 5 (0, 0)) ∧ cur.size = 130 ∧ cur.toList.take cs.length = bvs cs ∧ ∀ j, j < k → cur[cs.length + j]? = some (.int .u8 77)
section
variable {w w' : World} {g k : Nat} {cs : List UInt8}
theorem Room.lt (h : Room w g cs k) : g < w.heap.size := by
  obtain ⟨cur, hc, _⟩ := h
  exact (Array.getElem?_eq_some_iff.1 hc).1
theorem Room.rb (h : Room w g cs k) : RB w w.heap.size (some ⟨g, 0, none⟩) cs := by
  refine ⟨by simp [bvs], fun _ => ⟨g, 0, rfl, h.lt, fun j u hu => ?_⟩⟩
  obtain ⟨cur, hc, hs, ht, _⟩ := h
  rw [cell_of_row w g _ cur _ (0, 0) hc, Nat.zero_add]
  rw [← ht, List.getElem?_take] at hu
  split at hu
  · simpa using hu
  · cases hu
theorem Room.at_ (h : Room w g cs k) (j : Nat) (hj : cs.length + j < 130) : ∃ v, w.cell? ⟨g, cs.length + j, none⟩ = some v := by
  obtain ⟨cur, hc, hs, ht, _⟩ := h
  rw [cell_of_row w g _ cur _ (0, 0) hc]
  exact ⟨_, Array.getElem?_eq_getElem (by omega)⟩
theorem Room.mark (h : Room w g cs k) (j : Nat) (hj : j < k) : w.cell? ⟨g, cs.length + j, none⟩ = some (.int .u8 77) := by
  obtain ⟨cur, hc, hs, ht, hk⟩ := h
  rw [cell_of_row w g _ cur _ (0, 0) hc]
  exact hk j hj
theorem Room.frozen (h : Room w g cs k) (j : Nat) : w.frozen? ⟨g, j, none⟩ = false := by
  obtain ⟨cur, hc, _⟩ := h
  exact frozen_of_row w g j cur _ hc
theorem Room.keep (h : Room w g cs k) (hb : Below w.heap.size w w') : Room w' g cs k := by
  have hl := h.lt
  obtain ⟨cur, hc, hs⟩ := h
  exact ⟨cur, (hb.block g hl).trans hc, hs⟩
theorem Room.store (h : Room w g cs k) (hk : cs.length + k < 130) : Room (w.setCell ⟨g, cs.length + k, none⟩ (.int .u8 77)) g cs (k + 1) := by
  obtain ⟨cur, hc, hs, ht, hm⟩ := h
  refine ⟨cur.setIfInBounds (cs.length + k) (.int .u8 77), heap_setCell_same w g _ cur _ _ hc, by simpa using hs, ?_, fun j hj => ?_⟩
  · rw [Array.toList_setIfInBounds, List.take_set_of_le (Nat.le_add_right _ _)]
    exact ht
  · rw [Array.getElem?_setIfInBounds]
    by_cases e : j = k
    · subst e; simp; omega
    · rw [if_neg (by omega)]; exact hm j (by omega)
end

theorem num_put' (A : Option Addr) (bs : List UInt8) (l c : Nat) (hll : l = bs.length) (n x : Int) (h0 : -9223372036854775808 ≤ n) (h1 : n ≤ 9223372036854775807) (w : World) (hr : RB w w.heap.size A bs) (hl : bs.length ≤ 1073741824) :
    Calls Try.prog 14 #[.slice A l c, .int .i64 n, .int .i64 x] w fun e w' => ∃ v, e = .returned v ∧ OB w' w.heap.size v (putB bs n x) ∧ Below w.heap.size w w' := by
  subst hll
  exact num_put A bs c n x h0 h1 w hr hl

set_option maxHeartbeats 800000 in
theorem law_NumOwns (A : Option Addr) (bs : List UInt8) (c : Nat) (n x : Int) (hc : bs.length ≤ c) (hm : c ≤ maxLen) (hA : A = none → c = 0) (h0 : -9223372036854775808 ≤ n) (h1 : n ≤ 9223372036854775807) (w : World) (hr : RB w w.heap.size A bs) :
    Calls Try.prog 10 #[.slice A bs.length c, .int .i64 n, .int .i64 x] w fun e w' => e = .returned (.bool true) ∧ Below w.heap.size w w' := by
  have hl : (bs.take 100).length ≤ 100 := by rw [List.length_take]; omega
  have hr' : RB w w.heap.size A (bs.take 100) := hr.first 100
  have hfew := fun w => few1_any A bs c hc hm w
  have HF := Lib.hid hfew
  obtain ⟨cs, hcs⟩ : ∃ cs, cs = bs.take 100 := ⟨_, rfl⟩
  rw [← hcs] at hl hr' HF
  clear hcs hr hc hm hfew
  go_enter Try.func10, Try.ntmps10
  go_wp2_with (at_make; refine wpList_make0 rfl (.const (.int .i64 0)) (.const (.int .i64 130)) rfl w.heap.size _ 130 rfl rfl rfl (by omega) (Nat.le_refl _) ?_; intro w1 hown1 hb1 hq; clear hq)
  refine (HF.out _).mono ?_
  rintro e w2 ⟨rfl, rfl⟩
  obtain ⟨i0, hi, hz, hs1, hs2⟩ := info_parts byte_info
  have hra := hr'.below hb1
  have hnone : A = none → cs.length = 0 ∧ c = 0 := by
    intro h
    refine ⟨?_, hA h⟩
    rcases Nat.eq_zero_or_pos cs.length with h0 | h0
    · exact h0
    · obtain ⟨b, o, e, _⟩ := hra.2 h0
      rw [h] at e
      exact absurd e (by simp)
  have hcells : ∀ ad, A = some ad → ∀ j u, (bvs cs)[j]? = some u → w1.cell? (ad.add j) = some u := by
    intro ad had j u hu
    obtain ⟨b, o, e, _, hcc⟩ := hra.2 (by have := (List.getElem?_eq_some_iff.1 hu).1; rw [bvs_length] at this; omega)
    rw [e] at had
    injection had with had
    subst had
    rw [Addr.add_lit]
    exact hcc j u hu
  have HN := Lib.hid hnone
  have HC := Lib.hid hcells
  clear hnone hcells hA
  go_wp2_with (at_builtin; refine wpList_append_fits_any w1 rfl (.tmp 15) (.tmp 17) 22 rfl w.heap.size 5 i0 1 Try.underlying22 hi hs1 w.heap.size 0 130 [] rfl hown1 A cs.length c (bvs cs) rfl (by simp [bvs]) HN.out HC.out (bvs_one cs) (by omega) ?_; intro w2 hown2 hg2)
  have hg0 : Room w2 w.heap.size cs 0 := by
    rcases hown2.2 with ⟨h, _⟩ | ⟨g, cap, cur, hv, _, hc, _, _, hs, ht⟩
    · simp at h
    · simp only [Value.slice.injEq, Option.some.injEq, Addr.mk.injEq, and_true] at hv
      obtain ⟨hv1, -, hv2⟩ := hv
      subst hv1 hv2
      exact ⟨cur, hc, by simpa using hs, by simpa using ht, fun j hj => by omega⟩
  have hb2 : Below w.heap.size w w2 := hb1.grown hg2 hb1.size (fun k hk => by injection hk with hk; omega)
  rw [show cs.length + 8 - cs.length = 8 by omega]
  clear hown2 hg2 hown1 hb1 HN HC hra hi hz hs1 hs2
  go_loopw [9] (fun i wr => ∃ k : Nat, k ≤ 8 ∧ i = .int .i64 k ∧ Room wr w.heap.size cs k ∧ Below w.heap.size w wr) (fun i _ => 8 - (intOf i).toNat)
  case atStart => exact ⟨0, by omega, rfl, hg0, hb2⟩
  case round =>
    obtain ⟨k, hk, rfl, hroom, hb⟩ := hrel
    by_cases hlt : k < 8
    · obtain ⟨old, hold⟩ := hroom.at_ k (by omega)
      have hfz := hroom.frozen (cs.length + k)
      have hst := hroom.store (k := k) (by omega)
      have HS := Lib.hid hst
      clear hst hg0 hb2
      go_wp2
      go_roundw
      case rel => exact ⟨k + 1, by omega, by go_num, HS.out, hb.setCell (Nat.le_refl _) _⟩
      case measure => simp [intOf]; omega
    · obtain rfl : k = 8 := by omega
      clear hg0 hb2
      go_wp2_with fail
      refine (num_put' (some ⟨w.heap.size, 0, none⟩) cs cs.length 130 rfl n x h0 h1 _ hroom.rb (by omega)).mono ?_
      rintro e w3 ⟨v3, rfl, hown3, hb3⟩
      have hroom3 := hroom.keep hb3
      have hbw3 : Below w.heap.size w w3 := hb.trans (hb3.mono hb.size)
      obtain ⟨A3, c3, rfl, -, -, hrd3, -⟩ := hown3.form
      go_wp2_with fail
      go_loop [11] (fun i => ∃ k : Nat, k ≤ 8 ∧ i = .int .i64 k) (fun i => 8 - (intOf i).toNat)
      case atStart => exact ⟨0, by omega, rfl⟩
      case round =>
        obtain ⟨k, hk8, rfl⟩ := hrel
        by_cases hlt : k < 8
        · have hck := hroom3.mark k hlt
          go_wp2
          go_round
          case rel => exact ⟨k + 1, by omega, by go_num⟩
          case measure => simp [intOf]; omega
        · obtain rfl : k = 8 := by omega
          go_wp2_with fail
          refine (HF.out _).mono ?_
          rintro e w4 ⟨rfl, rfl⟩
          have hra3 : RB w3 w.heap.size A cs := hr'.below hbw3
          go_wp2_with fail
          refine (ref1_same (some ⟨w.heap.size, 0, none⟩) A cs cs 130 c _ _ _ hroom3.rb hra3 (by omega) (by omega)).mono ?_
          rintro e w4 ⟨rfl, q, rfl⟩
          go_wp2_with fail
          refine (HF.out _).mono ?_
          rintro e w5 ⟨rfl, rfl⟩
          go_wp2_with fail
          refine (ref1_put A cs c n x _ (Rd.more (hra3.drewN q) hbw3.size) (by omega) h1).mono ?_
          rintro e w5 ⟨v5, rfl, hown5, hb5⟩
          obtain ⟨A5, c5, rfl, -, -, hrd5, -⟩ := hown5.form
          have hpl := putB_length cs n x
          have hb5' : Below w3.heap.size w3 w5 := (below_drewN (Below.refl _ _) q).trans hb5
          go_wp2_with fail
          refine (ref1_same A3 A5 (putB cs n x) (putB cs n x) c3 c5 _ _ _ (hrd3.below hb5') hrd5 (by omega) (by omega)).mono ?_
          rintro e w6 ⟨rfl, q2, rfl⟩
          go_wp2_with fail
          refine (lives1_any _).mono ?_
          rintro e w7 ⟨rfl, hb7⟩
          go_wp2_with fail
          go_ret
          have h5 := hb5'.size
          exact ⟨rfl, (hbw3.trans (hb5'.mono hbw3.size)).trans ((below_drewN (Below.refl _ _) q2).trans (hb7.mono (by have := hbw3.size; simp; omega)))⟩
end Go.Proofs.Ytjbdabjkgpamnaa
