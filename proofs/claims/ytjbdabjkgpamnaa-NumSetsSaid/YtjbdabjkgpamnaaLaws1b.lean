/- The walks of the statements of layer 1, second part. -/
import Derived.Test.YtjbdabjkgpamnaaLaws1
import Derived.Deep.RegionWith
namespace Go.Proofs.Ytjbdabjkgpamnaa
open Go.RowKit

theorem RB.sub {w : World} {B b o : Nat} {bs : List UInt8} (h : RB w B (some ⟨b, o, none⟩) bs) (a n : Nat) (hn : a + n ≤ bs.length) : RB w B (some ⟨b, o + a, none⟩) ((bs.drop a).take n) := by
  refine ⟨by simp [bvs], fun h0 => ?_⟩
  rw [List.length_take, List.length_drop] at h0
  obtain ⟨b', o', e, hb, hc⟩ := h.2 (by omega)
  injection e with e
  injection e with e1 e2
  subst e1 e2
  refine ⟨_, _, rfl, hb, fun j u hu => ?_⟩
  rw [Nat.add_assoc]
  refine hc _ u ?_
  rw [bvs, List.getElem?_map, List.getElem?_take] at hu
  split at hu
  · rw [List.getElem?_drop] at hu
    rw [bvs, List.getElem?_map]
    exact hu
  · cases hu

theorem RB.drew {w : World} {B : Nat} {A : Option Addr} {bs : List UInt8} (h : RB w B A bs) : RB w.drew B A bs := h

theorem putB_nil_fits {n x : Int} (h : fitsB n x = true) : putB [] n x = leB n.toNat x.toNat := by simp [putB, h]

theorem law_NumRound (n m x : Int) (hn0 : -9223372036854775808 ≤ n) (hn1 : n ≤ 9223372036854775807) (hm0 : -9223372036854775808 ≤ m) (hm1 : m ≤ 9223372036854775807) (w : World) :
    Calls Try.prog 5 #[.int .i64 n, .int .i64 m, .int .i64 x] w fun e w' => e = .returned (.bool true) ∧ Below w.heap.size w w' := by
  have hp1 := putB_length [] n x
  have hp2 := putB_length [] m x
  simp only [List.length_nil] at hp1 hp2
  by_cases hf : fitsB n x = true
  · have hw := fits_width hf
    obtain ⟨wd, rfl⟩ : ∃ wd : Nat, x = wd := ⟨x.toNat, by omega⟩
    have hg := get_put hf hn1
    have hpe := putB_nil_fits hf
    rw [Int.toNat_natCast] at hpe
    have hlen : (putB [] n (wd : Int)).length = wd := by rw [hpe, leB_length]
    have hok : getN (putB [] n (wd : Int)) 0 wd = n ∧ getK (putB [] n (wd : Int)) 0 wd = true := by rw [hpe]; exact hg
    obtain ⟨P, hP⟩ : ∃ P, P = putB [] n (wd : Int) := ⟨_, rfl⟩
    have HLEN := Lib.hid hlen
    have HOK := Lib.hid hok
    have hle1 : P.length ≤ wd := by rw [hP, HLEN.out]; exact Nat.le_refl _
    have hle2 : wd ≤ P.length := by rw [hP, HLEN.out]; exact Nat.le_refl _
    rw [← hP] at HOK hp1
    have HPE := Lib.hid hpe
    have HP := Lib.hid hP
    clear hg hlen hok hpe hP hw
    by_cases hf2 : fitsB m (wd : Int) = true
    · have hinj := leB_inj hf hf2 hn1 hm1
      have HI := Lib.hid hinj
      have hpe2 := putB_nil_fits hf2
      rw [Int.toNat_natCast] at hpe2
      have HPE2 := Lib.hid hpe2
      clear hinj hpe2
      go_enter Try.func5, Try.ntmps5
      go_wp2_with fail
      refine (num_fits n _ hn0 hn1 _).mono ?_; rintro e w' ⟨rfl, rfl⟩; go_wp2_with fail
      refine (num_fits m _ hm0 hm1 _).mono ?_; rintro e w' ⟨rfl, rfl⟩; go_wp2_with fail
      refine (num_put none [] 0 n _ hn0 hn1 _ RB.nil_ (by simp)).mono ?_
      rintro e w1 ⟨v, rfl, hown, hb⟩
      obtain ⟨A1, c1, rfl, _, _, hrd1, _⟩ := hown.form
      rw [← HP.out] at hrd1 ⊢
      go_wp2_with fail
      refine (num_put none [] 0 m _ hm0 hm1 _ RB.nil_ (by simp)).mono ?_
      rintro e w2 ⟨v2, rfl, hown2, hb2⟩
      obtain ⟨A2, c2, rfl, _, _, hrd2, _⟩ := hown2.form
      go_wp2_with fail
      refine (num_get A1 P c1 0 _ (by omega) (by omega) _ _ (hrd1.below hb2) (by omega)).mono ?_
      rintro e w' ⟨rfl, rfl⟩
      rw [HOK.out.1, HOK.out.2]
      go_wp2_with fail
      refine (ref1_same A1 A2 P (putB [] m (wd : Int)) c1 c2 _ _ _ (hrd1.below hb2) hrd2 (by omega) (by omega)).mono ?_
      rintro e w3 ⟨rfl, k, rfl⟩
      by_cases heq : n = m
      · have e1 : decide (P = putB [] m (wd : Int)) = true := by
          rw [HP.out, HPE.out, HPE2.out, heq]; simp
        have e2 : (n == m) = true := by simp [heq]
        rw [e1]
        clear e1 heq
        go_wp2_with fail
        refine (lives1_any _).mono ?_
        rintro e w5 ⟨rfl, hb5⟩
        go_wp2_with fail
        go_ret
        refine ⟨rfl, (hb.trans (hb2.mono hb.size)).trans ((below_drewN (Below.refl _ _) k).trans (hb5.mono (by have := hb.size; have := hb2.size; simp; omega)))⟩
      · have e1 : decide (P = putB [] m (wd : Int)) = false := by
          rw [HP.out, HPE.out, HPE2.out]
          simp only [decide_eq_false_iff_not]
          exact fun h => heq (HI.out.1 h)
        have e2 : (n == m) = false := by simp [heq]
        rw [e1]
        clear e1 heq
        go_wp2_with fail
        refine (lives1_any _).mono ?_
        rintro e w5 ⟨rfl, hb5⟩
        go_wp2_with fail
        go_ret
        refine ⟨rfl, (hb.trans (hb2.mono hb.size)).trans ((below_drewN (Below.refl _ _) k).trans (hb5.mono (by have := hb.size; have := hb2.size; simp; omega)))⟩
    · have hf2 : fitsB m (wd : Int) = false := by simpa using hf2
      go_enter Try.func5, Try.ntmps5
      go_wp2_with fail
      refine (num_fits n _ hn0 hn1 _).mono ?_; rintro e w' ⟨rfl, rfl⟩; go_wp2_with fail
      refine (num_fits m _ hm0 hm1 _).mono ?_; rintro e w' ⟨rfl, rfl⟩; go_wp2_with fail
      refine (num_put none [] 0 n _ hn0 hn1 _ RB.nil_ (by simp)).mono ?_
      rintro e w1 ⟨v, rfl, hown, hb⟩
      obtain ⟨A1, c1, rfl, _, _, hrd1, _⟩ := hown.form
      rw [← HP.out] at hrd1 ⊢
      go_wp2_with fail
      refine (num_put none [] 0 m _ hm0 hm1 _ RB.nil_ (by simp)).mono ?_
      rintro e w2 ⟨v2, rfl, hown2, hb2⟩
      go_wp2_with fail
      refine (num_get A1 P c1 0 _ (by omega) (by omega) _ _ (hrd1.below hb2) (by omega)).mono ?_
      rintro e w' ⟨rfl, rfl⟩
      rw [HOK.out.1, HOK.out.2]
      go_wp2_with fail
      refine (lives1_any _).mono ?_
      rintro e w5 ⟨rfl, hb5⟩
      go_wp2_with fail
      go_ret
      exact ⟨rfl, (hb.trans (hb2.mono hb.size)).trans (hb5.mono (by have := hb.size; have := hb2.size; omega))⟩
  · have hf : fitsB n x = false := by simpa using hf
    go_enter Try.func5, Try.ntmps5
    go_wp2_with fail
    refine (num_fits n _ hn0 hn1 _).mono ?_; rintro e w' ⟨rfl, rfl⟩; go_wp2_with fail
    refine (num_fits m _ hm0 hm1 _).mono ?_; rintro e w' ⟨rfl, rfl⟩; go_wp2_with fail
    refine (num_put none [] 0 n _ hn0 hn1 _ RB.nil_ (by simp)).mono ?_
    rintro e w1 ⟨v, rfl, hown, hb⟩
    go_wp2_with fail
    refine (num_put none [] 0 m _ hm0 hm1 _ RB.nil_ (by simp)).mono ?_
    rintro e w2 ⟨v2, rfl, hown2, hb2⟩
    go_wp2_with fail
    refine (lives1_any _).mono ?_
    rintro e w5 ⟨rfl, hb5⟩
    go_wp2_with fail
    go_ret
    exact ⟨rfl, (hb.trans (hb2.mono hb.size)).trans (hb5.mono (by have := hb.size; have := hb2.size; omega))⟩

theorem law_NumAgain (A : Option Addr) (bs : List UInt8) (c : Nat) (at_ x : Int) (hc : bs.length ≤ c) (hm : c ≤ maxLen) (h0 : -9223372036854775808 ≤ at_) (h1 : at_ ≤ 9223372036854775807) (w : World) (hr : RB w w.heap.size A bs) :
    Calls Try.prog 6 #[.slice A bs.length c, .int .i64 at_, .int .i64 x] w fun e w' => e = .returned (.bool true) ∧ Below w.heap.size w w' := by
  have hl : (bs.take 100).length ≤ 100 := by rw [List.length_take]; omega
  have hlc : (bs.take 100).length ≤ c := by rw [List.length_take]; omega
  have hr' : RB w w.heap.size A (bs.take 100) := hr.first 100
  go_enter Try.func6, Try.ntmps6
  go_wp2_with fail
  refine (few1_any A bs c hc hm w).mono ?_
  rintro e w1 ⟨rfl, rfl⟩
  obtain ⟨cs, hcs⟩ : ∃ cs, cs = bs.take 100 := ⟨_, rfl⟩
  rw [← hcs] at hl hlc hr' ⊢
  unfold maxLen at hm
  clear hcs hr hc
  go_wp2_with fail
  refine (num_get A cs c at_ x h0 h1 _ _ hr' (by omega)).mono ?_
  rintro e w1 ⟨rfl, rfl⟩
  by_cases hk : getK cs at_ x = true
  · obtain ⟨a, wd, rfl, rfl, hwd, hwd1, hle, hfit, hsame, hn0, hn1⟩ := put_get hk
    rw [hk]
    have hpe := putB_nil_fits hfit
    rw [Int.toNat_natCast, hsame] at hpe
    obtain ⟨N, hN⟩ : ∃ N, N = getN cs a wd := ⟨_, rfl⟩
    rw [← hN] at hn0 hn1 hpe ⊢
    have HPE := Lib.hid hpe
    clear hsame hpe hfit hN hk
    obtain ⟨b, o, rfl, hbB, _⟩ := hr'.all (by omega)
    have hca : ¬ c = a := by omega
    have hsub := hr'.sub a wd hle
    have hlen : ((cs.drop a).take wd).length = wd := by rw [List.length_take, List.length_drop]; omega
    obtain ⟨ds, hds⟩ : ∃ ds, ds = (cs.drop a).take wd := ⟨_, rfl⟩
    rw [← hds] at hsub HPE hlen
    have HDS := Lib.hid hlen
    clear hds
    have hd1 : ds.length ≤ 8 := by omega
    clear hlen
    have g0 : 0 ≤ (a : Int) + (wd : Int) := by omega
    have g1 : (a : Int) + (wd : Int) ≤ (c : Int) := by omega
    have g2 : IntKind.i64.wrap ((a : Int) + (wd : Int)) = (a : Int) + (wd : Int) := IntWalk.i64_in _ (by omega)
    have g3 : ((a : Int) + (wd : Int)).toNat = a + wd := by omega
    go_wp2_with fail
    go_region_with (first
      | (go_at_call 14; refine (num_put none [] 0 N wd (by omega) hn1 _ RB.nil_ (by simp)).mono ?_; rintro e w1 ⟨v, rfl, hown, hb⟩; rw [HPE.out] at hown; obtain ⟨A1, c1, rfl, _, _, hrd1, _⟩ := hown.form)
      | (go_at_call 13; refine (ref1_same' A1 (some ⟨b, o + a, none⟩) ds ds ds.length wd c1 (c - a) _ _ _ rfl HDS.out.symm hrd1 (hsub.drew.below hb) (by omega) (by omega)).mono ?_; rintro e w3 ⟨rfl, k, rfl⟩))
    go_wp2_with fail
    refine (lives1_any _).mono ?_
    rintro e w5 ⟨rfl, hb5⟩
    go_wp2_with fail
    go_ret
    exact ⟨rfl, ((Below.refl _ _).drew.trans hb).trans ((below_drewN (Below.refl _ _) k).trans (hb5.mono hb.size))⟩
  · have hk : getK cs at_ x = false := by simpa using hk
    have h0 := get_no hk
    rw [hk, h0]
    go_wp2_with fail
    refine (lives1_any _).mono ?_
    rintro e w5 ⟨rfl, hb5⟩
    go_wp2_with fail
    go_ret
    exact ⟨rfl, hb5⟩
end Go.Proofs.Ytjbdabjkgpamnaa
