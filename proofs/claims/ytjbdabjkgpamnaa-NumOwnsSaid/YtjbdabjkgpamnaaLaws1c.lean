/- The walk of the statement NumSets. -/
import Derived.Test.YtjbdabjkgpamnaaLaws1b
import Derived.Test.YtjbdabjkgpamnaaSet
import Derived.Test.YtjbdabjkgpamnaaMake
namespace Go.Proofs.Ytjbdabjkgpamnaa
open Go.RowKit

theorem leVal_zeros (n : Nat) : leVal (List.replicate n 0) = 0 := by
  induction n with
  | zero => rfl
  | succ n ih => rw [List.replicate_succ, leVal, ih]; rfl
theorem getK_zeros (l : Nat) (at_ x : Int) : getK (List.replicate l 0) at_ x = true ↔ (isW x = true ∧ 0 ≤ at_ ∧ at_ + x ≤ l) := by
  unfold getK getO
  rw [List.length_replicate]
  split
  · rename_i h
    rw [List.drop_replicate, List.take_replicate, leVal_zeros]
    simp [h]
  · rename_i h
    simp [h]

theorem setB_in (cs : List UInt8) (a : Nat) (ns : List UInt8) (k : Nat) (ha : a + ns.length ≤ cs.length) (h1 : a ≤ k) (h2 : k < a + ns.length) : (setB cs a ns)[k]? = ns[k - a]? := by
  unfold setB
  rw [List.append_assoc, List.getElem?_append_right (by simp; omega), List.getElem?_append_left (by simp; omega)]
  congr 1
  simp
  omega
theorem setB_out (cs : List UInt8) (a : Nat) (ns : List UInt8) (k : Nat) (ha : a + ns.length ≤ cs.length) (h : k < a ∨ a + ns.length ≤ k) : (setB cs a ns)[k]? = cs[k]? := by
  unfold setB
  rcases h with h | h
  · rw [List.append_assoc, List.getElem?_append_left (by simp; omega), List.getElem?_take, if_pos h]
  · rw [List.getElem?_append_right (by simp; omega), List.getElem?_drop]
    congr 1
    simp
    omega
theorem ref1_get' (A : Option Addr) (bs : List UInt8) (l c : Nat) (hll : l = bs.length) (at_ x : Int) (h0 : -9223372036854775808 ≤ at_) (h1 : at_ ≤ 9223372036854775807) (B : Nat) (w : World) (hr : RB w B A bs) (hl : bs.length ≤ 1073741824) :
    Calls Try.prog 20 #[.slice A l c, .int .i64 at_, .int .i64 x] w fun e w' => e = .returned (.tuple #[.int .i64 (getN bs at_ x), .bool (getK bs at_ x)]) ∧ w = w' := by
  subst hll
  exact ref1_get A bs c at_ x h0 h1 B w hr hl
/-- A byte at a place, as the walk wants it. -/
theorem RB.get? {w : World} {B b o : Nat} {bs : List UInt8} (h : RB w B (some ⟨b, o, none⟩) bs) {k : Nat} {u : UInt8} (hk : bs[k]? = some u) : w.cell? ⟨b, o + k, none⟩ = some (.int .u8 (u.toNat : Int)) := by
  have hlt := (List.getElem?_eq_some_iff.1 hk).1
  obtain ⟨b', o', e, -, hc⟩ := h.at_ hlt
  injection e with e
  injection e with e1 e2
  subst e1 e2
  rw [hc, (List.getElem?_eq_some_iff.1 hk).2]

set_option maxHeartbeats 800000 in
set_option maxRecDepth 100000 in
theorem law_NumSets_yes (A : Option Addr) (bs : List UInt8) (c : Nat) (at_ n x : Int) (hc : bs.length ≤ c) (hm : c ≤ maxLen) (ha0 : -9223372036854775808 ≤ at_) (ha1 : at_ ≤ 9223372036854775807) (h0 : -9223372036854775808 ≤ n) (h1 : n ≤ 9223372036854775807) (w : World) (hr : RB w w.heap.size A bs)
    (hyes : fitsB n x = true ∧ 0 ≤ at_ ∧ at_ + x ≤ (bs.take 100).length) :
    Calls Try.prog 11 #[.slice A bs.length c, .int .i64 at_, .int .i64 n, .int .i64 x] w fun e w' => e = .returned (.bool true) ∧ Below w.heap.size w w' := by
  have HY := Lib.hid hyes
  clear hyes
  have hl : (bs.take 100).length ≤ 100 := by rw [List.length_take]; omega
  have hr' : RB w w.heap.size A (bs.take 100) := hr.first 100
  go_enter Try.func11, Try.ntmps11
  go_wp2_with fail
  refine (few1_any A bs c hc hm w).mono ?_
  rintro e w1 ⟨rfl, rfl⟩
  obtain ⟨cs, hcs⟩ : ∃ cs, cs = bs.take 100 := ⟨_, rfl⟩
  rw [← hcs] at hl hr' HY ⊢
  clear hcs hr hc hm
  go_wp2_with (at_builtin; refine wpList_appB rfl (.tmp 19) (.tmp 20) rfl w.heap.size _ [] rfl (OB.nil w _) w.heap.size A c cs cs.length rfl rfl hr' (by simp; omega) (Nat.le_refl _) ?_; intro v1 w1 hown hb1 hq1 hq2; clear hq1 hq2)
  rw [List.nil_append] at hown
  obtain ⟨hf, hat, hle⟩ := HY.out
  have hx := fits_width hf
  obtain ⟨wd, rfl⟩ : ∃ wd : Nat, x = wd := ⟨x.toNat, by omega⟩
  obtain ⟨a, rfl⟩ := Int.eq_ofNat_of_zero_le hat
  obtain ⟨g, cap, hv, hgb, hgl⟩ := World.ownsRow.form hown (by omega)
  rw [hv] at hown ⊢
  clear hv
  refine (num_set_yes g cap a wd cs _ n h0 h1 w1 hown (by omega) hf (by omega) _ rfl).mono ?_
  rintro e w2 ⟨rfl, hown2, hg2⟩
  have hb2 : Below w.heap.size w w2 := hb1.grown hg2 hb1.size (fun k hk => by injection hk with hk; omega)
  go_wp2_with fail
  refine (ref1_fits _ _ _).mono ?_
  rintro e w3 ⟨rfl, rfl⟩
  rw [hf]
  have hz2 := hb2.size
  go_wp2_with (at_make; refine wpList_makeB rfl (.tmp 32) (.tmp 32) rfl w2.heap.size _ _ cs.length rfl rfl rfl rfl (by omega) (Nat.le_refl _) ?_; intro w4 hown4 hb4 _)
  have hgk : getK (List.replicate cs.length 0) (a : Int) (wd : Int) = true := (getK_zeros _ _ _).2 ⟨by simp [isW]; omega, by omega, hle⟩
  refine (ref1_get' _ (List.replicate cs.length 0) _ _ (by simp) a wd (by omega) (by omega) _ _ (OB.rd (by simp) hown4) (by simp; omega)).mono ?_
  rintro e w5 ⟨rfl, rfl⟩
  rw [hgk]
  have hlen2 : (setB cs a (leB n.toNat wd)).length = cs.length := by rw [setB_length _ _ _ (by rw [leB_length]; omega)]
  go_wp2_with fail
  refine (ref1_put none [] 0 n _ _ RB.nil_ (by simp) h1).mono ?_
  rintro e w6 ⟨v6, rfl, hown6, hb6⟩
  have hns : putB [] n (wd : Int) = leB n.toNat wd := by
    have := putB_nil_fits hf
    rwa [Int.toNat_natCast] at this
  rw [hns] at hown6
  have hnl : (leB n.toNat wd).length = wd := leB_length _ _
  obtain ⟨ns, hnse⟩ : ∃ ns, ns = leB n.toNat wd := ⟨_, rfl⟩
  rw [← hnse] at hown6 hown2 hnl hlen2
  obtain ⟨A6, c6, rfl, -, -, hrd6, -⟩ := hown6.form
  have hz4 := hb4.size
  have hz6 := hb6.size
  have hrd2 : RB w6 w2.heap.size (some ⟨g, 0, none⟩) (setB cs a ns) := ((OB.rd (by omega) hown2).below hb4).below (hb6.mono hz4)
  have hra : RB w6 w.heap.size A cs := ((hr'.below hb2).below (hb4.mono hz2)).below (hb6.mono (by omega))
  have hbw : Below w.heap.size w w6 := (hb2.trans (hb4.mono hz2)).trans (hb6.mono (by omega))
  have HNL := Lib.hid hnl
  have hnl1 : ns.length ≤ wd := by omega
  have hnl2 : wd ≤ ns.length := by omega
  have hin := setB_in cs a ns
  have hout := setB_out cs a ns
  have HIN := Lib.hid hin
  have HOUT := Lib.hid hout
  have HL2 := Lib.hid hlen2
  clear hin hout hnl hnse hns hgk hlen2 hown hown2 hown4 hown6 hr' hb1 hb2 hb4 hb6 hg2 hf hx
  go_wp2_with fail
  go_loop [15] (fun i => ∃ k : Nat, k ≤ cs.length ∧ i = .int .i64 k) (fun i => cs.length - (intOf i).toNat)
  case atStart => exact ⟨0, Nat.zero_le _, rfl⟩
  case round =>
    obtain ⟨k, hk, rfl⟩ := hrel
    by_cases hlt : k < cs.length
    · obtain ⟨b, o, rfl, -, hcell⟩ := hra.at_ hlt
      obtain ⟨u, hu⟩ : ∃ u, u = cs[k]'hlt := ⟨_, rfl⟩
      rw [← hu] at hcell
      by_cases hi : a ≤ k ∧ k < a + wd
      · obtain ⟨hi1, hi2⟩ := hi
        have e1 := HIN.out k (by omega) hi1 (by omega)
        have hlt6 : k - a < ns.length := by omega
        obtain ⟨b6, o6, rfl, -, hc6⟩ := hrd6.at_ hlt6
        obtain ⟨q, hq⟩ : ∃ q, q = ns[k - a]'hlt6 := ⟨_, rfl⟩
        rw [← hq] at hc6
        rw [List.getElem?_eq_getElem hlt6, ← hq] at e1
        have hc2 := hrd2.get? e1
        rw [Nat.zero_add] at hc2
        have HU := Lib.hid hu
        have HQ := Lib.hid hq
        clear hu hq e1
        go_wp2
        go_round
        case rel => exact ⟨k + 1, by omega, by go_num⟩
        case measure => simp [intOf]; omega
      · have e1 := HOUT.out k (by omega) (by omega)
        rw [List.getElem?_eq_getElem hlt, ← hu] at e1
        have hc2 := hrd2.get? e1
        rw [Nat.zero_add] at hc2
        have HU := Lib.hid hu
        have hi' : k < a ∨ a + wd ≤ k := by omega
        clear hu e1 hi
        rcases hi' with hi' | hi'
        all_goals
          go_wp2
          go_round
          case rel => exact ⟨k + 1, by omega, by go_num⟩
          case measure => simp [intOf]; omega
    · obtain rfl : k = cs.length := by omega
      go_wp2_with fail
      refine (lives1_any _).mono ?_
      rintro e w7 ⟨rfl, hb7⟩
      go_wp2_with fail
      go_ret
      exact ⟨rfl, hbw.trans (hb7.mono hbw.size)⟩

set_option maxHeartbeats 800000 in
set_option maxRecDepth 100000 in
theorem law_NumSets_no (A : Option Addr) (bs : List UInt8) (c : Nat) (at_ n x : Int) (hc : bs.length ≤ c) (hm : c ≤ maxLen) (ha0 : -9223372036854775808 ≤ at_) (ha1 : at_ ≤ 9223372036854775807) (h0 : -9223372036854775808 ≤ n) (h1 : n ≤ 9223372036854775807) (w : World) (hr : RB w w.heap.size A bs)
    (hno : ¬ (fitsB n x = true ∧ 0 ≤ at_ ∧ at_ + x ≤ (bs.take 100).length)) :
    Calls Try.prog 11 #[.slice A bs.length c, .int .i64 at_, .int .i64 n, .int .i64 x] w fun e w' => e = .returned (.bool true) ∧ Below w.heap.size w w' := by
  have HY := Lib.hid hno
  clear hno
  have hl : (bs.take 100).length ≤ 100 := by rw [List.length_take]; omega
  have hr' : RB w w.heap.size A (bs.take 100) := hr.first 100
  go_enter Try.func11, Try.ntmps11
  go_wp2_with fail
  refine (few1_any A bs c hc hm w).mono ?_
  rintro e w1 ⟨rfl, rfl⟩
  obtain ⟨cs, hcs⟩ : ∃ cs, cs = bs.take 100 := ⟨_, rfl⟩
  rw [← hcs] at hl hr' HY ⊢
  clear hcs hr hc hm
  go_wp2_with (at_builtin; refine wpList_appB rfl (.tmp 19) (.tmp 20) rfl w.heap.size _ [] rfl (OB.nil w _) w.heap.size A c cs cs.length rfl rfl hr' (by simp; omega) (Nat.le_refl _) ?_; intro v1 w1 hown hb1 hq1 hq2; clear hq1 hq2)
  rw [List.nil_append] at hown
  obtain ⟨A1, c1, rfl, -, -, hrd1, -⟩ := hown.form
  refine (num_set_no A1 cs.length c1 at_ n x h0 h1 ha0 ha1 (by omega) w1 HY.out).mono ?_
  rintro e w2 ⟨rfl, rfl⟩
  have hz1 := hb1.size
  go_wp2_with fail
  refine (ref1_fits _ _ _).mono ?_
  rintro e w3 ⟨rfl, rfl⟩
  go_wp2_with (at_make; refine wpList_makeB rfl (.tmp 32) (.tmp 32) rfl w1.heap.size _ _ cs.length rfl rfl rfl rfl (by omega) (Nat.le_refl _) ?_; intro w4 hown4 hb4 _)
  refine (ref1_get' _ (List.replicate cs.length 0) _ _ (by simp) at_ x (by omega) (by omega) _ _ (OB.rd (by simp) hown4) (by simp; omega)).mono ?_
  rintro e w5 ⟨rfl, rfl⟩
  have hft : fitsB n x = false ∨ (fitsB n x = true ∧ getK (List.replicate cs.length 0) at_ x = false) := by
    by_cases hf : fitsB n x = true
    · right
      refine ⟨hf, ?_⟩
      by_cases hg : getK (List.replicate cs.length 0) at_ x = true
      · obtain ⟨-, g1, g2⟩ := (getK_zeros _ _ _).1 hg
        exact absurd ⟨hf, g1, g2⟩ HY.out
      · simpa using hg
    · left; simpa using hf
  have hz4 := hb4.size
  have hra4 : RB w4 w.heap.size A cs := (hr'.below hb1).below (hb4.mono hz1)
  have hro4 : RB w4 w1.heap.size A1 cs := hrd1.below hb4
  have hbw4 : Below w.heap.size w w4 := hb1.trans (hb4.mono hz1)
  clear hown hown4 hrd1 hr' hb1 hb4
  rcases hft with hf | ⟨hf, hg⟩
  all_goals
    first | rw [hf, hg] | rw [hf]
    go_wp2_with fail
    refine (ref1_put none [] 0 n x _ RB.nil_ (by simp) h1).mono ?_
    rintro e w6 ⟨v6, rfl, hown6, hb6⟩
    have hra : RB w6 w.heap.size A cs := hra4.below (hb6.mono (by omega))
    have hro : RB w6 w1.heap.size A1 cs := hro4.below (hb6.mono (by omega))
    have hbw : Below w.heap.size w w6 := hbw4.trans (hb6.mono (by omega))
    clear hown6 hb6 hra4 hro4 hbw4
    go_wp2_with fail
    go_loop [15] (fun i => ∃ k : Nat, k ≤ cs.length ∧ i = .int .i64 k) (fun i => cs.length - (intOf i).toNat)
    case atStart => exact ⟨0, Nat.zero_le _, rfl⟩
    case round =>
      obtain ⟨k, hk, rfl⟩ := hrel
      by_cases hlt : k < cs.length
      · obtain ⟨b, o, rfl, -, hcell⟩ := hra.at_ hlt
        obtain ⟨b6, o6, rfl, -, hc6⟩ := hro.at_ hlt
        obtain ⟨u, hu⟩ : ∃ u, u = cs[k]'hlt := ⟨_, rfl⟩
        rw [← hu] at hcell hc6
        have HU := Lib.hid hu
        clear hu
        go_wp2
        go_round
        case rel => exact ⟨k + 1, by omega, by go_num⟩
        case measure => simp [intOf]; omega
      · obtain rfl : k = cs.length := by omega
        go_wp2_with fail
        refine (lives1_any _).mono ?_
        rintro e w7 ⟨rfl, hb7⟩
        go_wp2_with fail
        go_ret
        exact ⟨rfl, hbw.trans (hb7.mono hbw.size)⟩

theorem law_NumSets (A : Option Addr) (bs : List UInt8) (c : Nat) (at_ n x : Int) (hc : bs.length ≤ c) (hm : c ≤ maxLen) (ha0 : -9223372036854775808 ≤ at_) (ha1 : at_ ≤ 9223372036854775807) (h0 : -9223372036854775808 ≤ n) (h1 : n ≤ 9223372036854775807) (w : World) (hr : RB w w.heap.size A bs) :
    Calls Try.prog 11 #[.slice A bs.length c, .int .i64 at_, .int .i64 n, .int .i64 x] w fun e w' => e = .returned (.bool true) ∧ Below w.heap.size w w' := by
  by_cases h : fitsB n x = true ∧ 0 ≤ at_ ∧ at_ + x ≤ (bs.take 100).length
  · exact law_NumSets_yes A bs c at_ n x hc hm ha0 ha1 h0 h1 w hr h
  · exact law_NumSets_no A bs c at_ n x hc hm ha0 ha1 h0 h1 w hr h
end Go.Proofs.Ytjbdabjkgpamnaa
