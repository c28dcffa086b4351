/- The walks of the statements PlogEncodes, PlogDecodes, PlogRound. No statement of the seat is proved here. -/
import Derived.Test.YtncjfljmnkfghaaZ14
import Derived.Test.YtncjfljmnkfghaaZ16
import Derived.Test.YtncjfljmnkfghaaZ11
import Derived.Test.YtncjfljmnkfghaaZ02
namespace Go.Proofs.Ytncjfljmnkfghaa
open Go.RowKit

theorem Own.of_eq {w : World} {base n m c : Nat} {A : Option Addr} {bs : List UInt8} (h : Own w base A n c bs) (e : n = m) : Own w base A m c bs := e ▸ h

set_option maxHeartbeats 4000000 in
set_option maxRecDepth 4000 in
theorem law_PlogEncodes (A0 : Option Addr) (n c : Nat) (L : List PT) (w : World) (hr : RQ w A0 n L) (hw : ∀ p ∈ L, p.wide) :
    Calls Try.prog 3 #[.slice A0 n c] w fun e w' => e = .returned (.bool true) ∧ Below w.heap.size w w' := by
  have HR := Lib.hid hr
  have HW := Lib.hid (fewP_wide (k := 70) (m := 300) hw)
  clear hr hw
  go_enter Try.func3, Try.ntmps3
  go_wp2_with fail
  refine (few_c HR.out).mono ?_
  rintro e w1 ⟨v, rfl, o1, g1⟩
  have hfl := fewP_length 70 300 L
  obtain ⟨K, hK⟩ : ∃ K, K = fewP 70 300 L := ⟨_, rfl⟩
  rw [← hK] at o1 HW hfl
  obtain ⟨A1, c1, rfl, hc1, r1⟩ := o1.rp (by omega)
  obtain ⟨q, hq⟩ : ∃ q, q = K.length := ⟨_, rfl⟩
  rw [← hq] at r1 hc1 ⊢
  have R1 := Lib.hid r1
  have G1 := Lib.hid g1
  clear o1 r1 g1 hK hq hfl HR
  go_wp2_with fail
  refine (pl_encode R1.out HW.out).mono ?_
  rintro e w2 (⟨hm, A2, c2, rfl, o2, g2⟩ | ⟨hm, rfl, g2⟩)
  · have R2 := Lib.hid (R1.out.keep g2)
    have G2 := Lib.hid (G1.out.trans g2)
    have s2 := o2.sl
    have HM := Lib.hid hm
    obtain ⟨b, hb⟩ : ∃ b, b = encP K := ⟨_, rfl⟩
    rw [← hb] at s2 ⊢
    obtain ⟨m, hmm⟩ : ∃ m, m = b.length := ⟨_, rfl⟩
    rw [← hmm] at s2 ⊢
    have HS2 := Lib.hid s2
    have HB := Lib.hid hb
    have HMM := Lib.hid hmm
    clear o2 g2 s2 hm hb hmm R1
    go_wp2_with fail
    refine (rl_encode R2.out HW.out).mono ?_
    rintro e w3 (⟨-, A3, c3, rfl, o3, g3⟩ | ⟨hm, -, -⟩)
    case inr => rw [HM.out] at hm; cases hm
    have s3 := o3.sl
    rw [← HB.out, ← HMM.out] at s3 ⊢
    have HS3 := Lib.hid s3
    have HS2' := Lib.hid (HS2.out.keep g3)
    have G3 := Lib.hid (G2.out.trans g3)
    clear o3 s3 g3
    go_wp2_with fail
    refine (same_yes HS2'.out HS3.out rfl).mono ?_
    rintro e w4 ⟨rfl, k, hw4⟩
    have GG := Lib.hid (show Grow w w4 by rw [hw4]; exact G3.out.drewN k)
    clear hw4
    go_wp2_with fail
    refine (lives8 _).mono ?_
    rintro e wl ⟨rfl, gl⟩
    have GL := Lib.hid (GG.out.trans gl)
    clear gl
    go_wp2_with fail
    go_ret
    exact ⟨rfl, GL.out⟩
  · have R2 := Lib.hid (R1.out.keep g2)
    have G2 := Lib.hid (G1.out.trans g2)
    have HM := Lib.hid hm
    clear g2 hm R1
    go_wp2_with fail
    refine (rl_encode R2.out HW.out).mono ?_
    rintro e w3 (⟨hm, -⟩ | ⟨-, rfl, g3⟩)
    case inl => rw [HM.out] at hm; cases hm
    have G3 := Lib.hid (G2.out.trans g3)
    clear g3
    go_wp2_with fail
    refine (same_yes (n := 0) (n' := 0) Sl.nil Sl.nil rfl).mono ?_
    rintro e w4 ⟨rfl, k, hw4⟩
    have GG := Lib.hid (show Grow w w4 by rw [hw4]; exact G3.out.drewN k)
    clear hw4
    go_wp2_with fail
    refine (lives8 _).mono ?_
    rintro e wl ⟨rfl, gl⟩
    have GL := Lib.hid (GG.out.trans gl)
    clear gl
    go_wp2_with fail
    go_ret
    exact ⟨rfl, GL.out⟩

set_option maxHeartbeats 4000000 in
set_option maxRecDepth 4000 in
theorem law_PlogDecodes (A0 : Option Addr) (n c : Nat) (b0 : List UInt8) (w : World) (hn : n = b0.length) (hr : RB w w.heap.size A0 b0) (hc : b0.length ≤ c) :
    Calls Try.prog 4 #[.slice A0 n c] w fun e w' => e = .returned (.bool true) ∧ Below w.heap.size w w' := by
  by_cases h : 600 < n
  · have z1 : decide (600 < n) = true := decide_eq_true h
    have z2 : decide ((600 : Int) < (n : Int)) = true := decide_eq_true (by omega)
    have i1 : 600 ≤ c := by omega
    obtain ⟨b, hb⟩ : ∃ b, b = b0.take 600 := ⟨_, rfl⟩
    have HS := Lib.hid (show Sl w A0 600 b by rw [hb]; exact Sl.ofTake hr (by omega) (by omega))
    have hmc : 600 ≤ c := i1
    clear hr hn hc h hb
    go_enter Try.func4, Try.ntmps4
    go_wp2_with fail
    refine (pl_decode HS.out hmc).mono ?_
    rintro e w1 ⟨v1, rfl, o1, g1⟩
    obtain ⟨E, hE⟩ : ∃ E, E = dpE b := ⟨_, rfl⟩
    obtain ⟨D, hD⟩ : ∃ D, D = dpU b := ⟨_, rfl⟩
    rw [← hE, ← hD]
    have HE := Lib.hid hE
    have HD := Lib.hid hD
    have HF := Lib.hid (dpL_few (b := b))
    have HO := Lib.hid o1
    have G1 := Lib.hid g1
    have HS1 := Lib.hid (HS.out.keep g1)
    clear o1 g1 hE hD
    go_wp2_with fail
    refine (rl_decode HS1.out hmc).mono ?_
    rintro e w2 ⟨v2, rfl, o2, g2⟩
    rw [← HE.out, ← HD.out]
    have O1 := Lib.hid (HO.out.keep g2)
    have GG2 := Lib.hid (G1.out.trans g2)
    obtain ⟨A1, c1, rfl, -, p1⟩ := O1.out.rp (by have := HF.out.1; omega)
    obtain ⟨A2, c2, rfl, -, p2⟩ := o2.rp (by have := HF.out.1; omega)
    have hql := HF.out.1
    obtain ⟨q, hq⟩ : ∃ q, q = (dpL b).length := ⟨_, rfl⟩
    rw [← hq] at p1 p2 hql ⊢
    have P1 := Lib.hid p1
    have P2 := Lib.hid p2
    clear o2 g2 p1 p2 hq HO O1
    go_wp2_with fail
    refine (pats_same P1.out P2.out (by omega)).mono ?_
    rintro e w4 ⟨rfl, k, hw4⟩
    have GG := Lib.hid (show Grow w w4 by rw [hw4]; exact GG2.out.drewN k)
    clear hw4
    go_wp2_with fail
    
    refine (lives8 _).mono ?_
    rintro e wl ⟨rfl, gl⟩
    have GL := Lib.hid (GG.out.trans gl)
    clear gl
    go_wp2_with fail
    go_ret
    exact ⟨rfl, GL.out⟩
  · have z1 : decide (600 < n) = false := decide_eq_false h
    have z2 : decide ((600 : Int) < (n : Int)) = false := decide_eq_false (by omega)
    obtain ⟨b, hb⟩ : ∃ b, b = b0 := ⟨_, rfl⟩
    have HS := Lib.hid (show Sl w A0 n b by rw [hb]; exact Sl.ofRB hr hn.symm (by omega))
    have hmc : n ≤ c := by omega
    clear hr hn hc h hb
    go_enter Try.func4, Try.ntmps4
    go_wp2_with fail
    refine (pl_decode HS.out hmc).mono ?_
    rintro e w1 ⟨v1, rfl, o1, g1⟩
    obtain ⟨E, hE⟩ : ∃ E, E = dpE b := ⟨_, rfl⟩
    obtain ⟨D, hD⟩ : ∃ D, D = dpU b := ⟨_, rfl⟩
    rw [← hE, ← hD]
    have HE := Lib.hid hE
    have HD := Lib.hid hD
    have HF := Lib.hid (dpL_few (b := b))
    have HO := Lib.hid o1
    have G1 := Lib.hid g1
    have HS1 := Lib.hid (HS.out.keep g1)
    clear o1 g1 hE hD
    go_wp2_with fail
    refine (rl_decode HS1.out hmc).mono ?_
    rintro e w2 ⟨v2, rfl, o2, g2⟩
    rw [← HE.out, ← HD.out]
    have O1 := Lib.hid (HO.out.keep g2)
    have GG2 := Lib.hid (G1.out.trans g2)
    obtain ⟨A1, c1, rfl, -, p1⟩ := O1.out.rp (by have := HF.out.1; omega)
    obtain ⟨A2, c2, rfl, -, p2⟩ := o2.rp (by have := HF.out.1; omega)
    have hql := HF.out.1
    obtain ⟨q, hq⟩ : ∃ q, q = (dpL b).length := ⟨_, rfl⟩
    rw [← hq] at p1 p2 hql ⊢
    have P1 := Lib.hid p1
    have P2 := Lib.hid p2
    clear o2 g2 p1 p2 hq HO O1
    go_wp2_with fail
    refine (pats_same P1.out P2.out (by omega)).mono ?_
    rintro e w4 ⟨rfl, k, hw4⟩
    have GG := Lib.hid (show Grow w w4 by rw [hw4]; exact GG2.out.drewN k)
    clear hw4
    go_wp2_with fail
    
    refine (lives8 _).mono ?_
    rintro e wl ⟨rfl, gl⟩
    have GL := Lib.hid (GG.out.trans gl)
    clear gl
    go_wp2_with fail
    go_ret
    exact ⟨rfl, GL.out⟩

set_option maxHeartbeats 8000000 in
set_option maxRecDepth 4000 in
theorem law_PlogRound (A0 : Option Addr) (n c : Nat) (L : List PT) (A9 : Option Addr) (n9 c9 : Nat) (r9 : List UInt8) (w : World) (hr : RQ w A0 n L) (hw : ∀ p ∈ L, p.wide) (hn9 : n9 = r9.length) (hr9 : RB w w.heap.size A9 r9) (hc9 : r9.length ≤ c9) :
    Calls Try.prog 5 #[.slice A0 n c, .slice A9 n9 c9] w fun e w' => e = .returned (.bool true) ∧ Below w.heap.size w w' := by
  have HR := Lib.hid hr
  have HW := Lib.hid (fewP_wide (k := 70) (m := 300) hw)
  have HR9 := Lib.hid hr9
  have HN9 := Lib.hid hn9
  have HC9 := Lib.hid (show n9 ≤ c9 by omega)
  clear hr hw hr9 hn9 hc9
  go_enter Try.func5, Try.ntmps5
  go_wp2_with fail
  refine (few_c HR.out).mono ?_
  rintro e w1 ⟨v, rfl, o1, g1⟩
  have hfl := fewP_length 70 300 L
  obtain ⟨K, hK⟩ : ∃ K, K = fewP 70 300 L := ⟨_, rfl⟩
  rw [← hK] at o1 HW hfl
  obtain ⟨A1, c1, rfl, hc1, r1⟩ := o1.rp (by omega)
  obtain ⟨q, hq⟩ : ∃ q, q = K.length := ⟨_, rfl⟩
  rw [← hq] at r1 hc1 hfl ⊢
  have R1 := Lib.hid r1
  have G1 := Lib.hid g1
  clear o1 r1 g1 hK hq HR
  go_wp2_with fail
  refine (pl_encode R1.out HW.out).mono ?_
  rintro e w2 (⟨hm, A2, c2, rfl, o2, g2⟩ | ⟨hm, rfl, g2⟩)
  · have R2 := Lib.hid (R1.out.keep g2)
    have G2 := Lib.hid (G1.out.trans g2)
    have s2 := o2.sl
    have HM := Lib.hid hm
    have HMO := Lib.hid (encP_mod K)
    have HLE := Lib.hid (encP_le hm)
    obtain ⟨b, hb⟩ : ∃ b, b = encP K := ⟨_, rfl⟩
    rw [← hb] at s2 HMO HLE ⊢
    obtain ⟨m, hmm⟩ : ∃ m, m = b.length := ⟨_, rfl⟩
    rw [← hmm] at s2 HMO HLE ⊢
    have HS2 := Lib.hid s2
    have HB := Lib.hid hb
    have HMM := Lib.hid hmm
    have hml := HLE.out
    have z8 : (Int.tmod (m : Int) 8 == 0) = true := by rw [Int.tmod_eq_emod_of_nonneg (by omega)]; have := HMO.out.1; rw [beq_iff_eq]; omega
    have z9 : ((m : Int) % 8 == 0) = true := by have := HMO.out.1; rw [beq_iff_eq]; omega
    clear o2 g2 s2 hm hb hmm R1
    by_cases h5 : 50 < n9
    · have y1 : decide (50 < n9) = true := decide_eq_true h5
      have y2 : decide ((50 : Int) < (n9 : Int)) = true := decide_eq_true (by omega)
      have i1 : 50 ≤ c9 := by have := HC9.out; omega
      obtain ⟨t, ht⟩ : ∃ t, t = r9.take 50 := ⟨_, rfl⟩
      have HT := Lib.hid (show Sl w A9 50 t by rw [ht]; exact Sl.ofTake HR9.out (by have := HN9.out; omega) (by omega))
      clear ht h5
      have T2 := Lib.hid (HT.out.keep G2.out)
      have HTL := Lib.hid HT.out.1
      have hNb : 50 ≤ 1073741000 := HT.out.2.1
      have HDP := Lib.hid (dp_enc HM.out t)
      rw [← HB.out, ← HMM.out] at HDP
      have i9 : 50 ≤ 50 := by omega
      clear HT
      go_wp2_with ((first
        | (at_builtin; refine wpList_appB rfl (.tmp 27) (.tmp 28) rfl w2.heap.size _ [] rfl (OB.nil w2 _) w2.heap.size A2 c2 b m HMM.out rfl HS2.out.2.2 (by rw [← HMM.out]; simp; omega) (Nat.le_refl _) ?_; intro v5 w5 hown5 hb5 p1 p2; clear p1 p2)
        | (at_builtin; refine wpList_appB rfl (.tmp 30) (.tmp 31) rfl w2.heap.size _ _ rfl hown5 w5.heap.size A9 c9 t 50 HTL.out.symm rfl (T2.out.keep hb5).2.2 (by rw [List.nil_append, ← HMM.out, HTL.out]; omega) (Below.size hb5) ?_; intro v6 w6 hown6 hb6 p1 p2; obtain ⟨A6, c6, rfl, o6⟩ := Own.ofOB hown6 (m + 50) (by rw [List.nil_append, List.length_append, ← HMM.out, HTL.out]) (by omega); clear p1 p2 hown5 hown6)))
      rw [List.nil_append] at o6
      have O6 := Lib.hid o6
      have G6 := Lib.hid (G2.out.trans (show Grow w2 w6 from hb5.trans hb6))
      have R6 := Lib.hid (R2.out.keep (show Grow w2 w6 from hb5.trans hb6))
      refine (pl_decode O6.out.sl O6.out.cap).mono ?_
      rintro e w7 ⟨v7, rfl, o7, g7⟩
      rw [HDP.out.1, HDP.out.2.2]
      rw [HDP.out.2.1] at o7
      have G7 := Lib.hid (G6.out.trans g7)
      have R7 := Lib.hid (R6.out.keep g7)
      obtain ⟨A7, c7, rfl, -, p7⟩ := o7.rp (by have := R6.out.1; omega)
      have hkq : K.length = q := R6.out.1
      rw [hkq] at p7 ⊢
      have P7 := Lib.hid p7
      clear o7 g7 p7 hkq o6 hb5 hb6
      go_wp2_with fail
      refine (pats_same P7.out R7.out (by omega)).mono ?_
      rintro e w8 ⟨rfl, k8, hw8⟩
      have GG := Lib.hid (show Grow w w8 by rw [hw8]; exact G7.out.drewN k8)
      clear hw8
      go_wp2_with fail
      
      refine (lives8 _).mono ?_
      rintro e wl ⟨rfl, gl⟩
      have GL := Lib.hid (GG.out.trans gl)
      clear gl
      go_wp2_with fail
      go_ret
      exact ⟨rfl, GL.out⟩
    · have y1 : decide (50 < n9) = false := decide_eq_false h5
      have y2 : decide ((50 : Int) < (n9 : Int)) = false := decide_eq_false (by omega)
      obtain ⟨t, ht⟩ : ∃ t, t = r9 := ⟨_, rfl⟩
      have HT := Lib.hid (show Sl w A9 n9 t by rw [ht]; exact Sl.ofRB HR9.out HN9.out.symm (by omega))
      clear ht
      have T2 := Lib.hid (HT.out.keep G2.out)
      have HTL := Lib.hid HT.out.1
      have hNb : n9 ≤ 1073741000 := HT.out.2.1
      have HDP := Lib.hid (dp_enc HM.out t)
      rw [← HB.out, ← HMM.out] at HDP
      have i9 : n9 ≤ 50 := by omega
      clear HT
      go_wp2_with ((first
        | (at_builtin; refine wpList_appB rfl (.tmp 27) (.tmp 28) rfl w2.heap.size _ [] rfl (OB.nil w2 _) w2.heap.size A2 c2 b m HMM.out rfl HS2.out.2.2 (by rw [← HMM.out]; simp; omega) (Nat.le_refl _) ?_; intro v5 w5 hown5 hb5 p1 p2; clear p1 p2)
        | (at_builtin; refine wpList_appB rfl (.tmp 30) (.tmp 31) rfl w2.heap.size _ _ rfl hown5 w5.heap.size A9 c9 t n9 HTL.out.symm rfl (T2.out.keep hb5).2.2 (by rw [List.nil_append, ← HMM.out, HTL.out]; omega) (Below.size hb5) ?_; intro v6 w6 hown6 hb6 p1 p2; obtain ⟨A6, c6, rfl, o6⟩ := Own.ofOB hown6 (m + n9) (by rw [List.nil_append, List.length_append, ← HMM.out, HTL.out]) (by omega); clear p1 p2 hown5 hown6)))
      rw [List.nil_append] at o6
      have O6 := Lib.hid o6
      have G6 := Lib.hid (G2.out.trans (show Grow w2 w6 from hb5.trans hb6))
      have R6 := Lib.hid (R2.out.keep (show Grow w2 w6 from hb5.trans hb6))
      refine (pl_decode O6.out.sl O6.out.cap).mono ?_
      rintro e w7 ⟨v7, rfl, o7, g7⟩
      rw [HDP.out.1, HDP.out.2.2]
      rw [HDP.out.2.1] at o7
      have G7 := Lib.hid (G6.out.trans g7)
      have R7 := Lib.hid (R6.out.keep g7)
      obtain ⟨A7, c7, rfl, -, p7⟩ := o7.rp (by have := R6.out.1; omega)
      have hkq : K.length = q := R6.out.1
      rw [hkq] at p7 ⊢
      have P7 := Lib.hid p7
      clear o7 g7 p7 hkq o6 hb5 hb6
      go_wp2_with fail
      refine (pats_same P7.out R7.out (by omega)).mono ?_
      rintro e w8 ⟨rfl, k8, hw8⟩
      have GG := Lib.hid (show Grow w w8 by rw [hw8]; exact G7.out.drewN k8)
      clear hw8
      go_wp2_with fail
      
      refine (lives8 _).mono ?_
      rintro e wl ⟨rfl, gl⟩
      have GL := Lib.hid (GG.out.trans gl)
      clear gl
      go_wp2_with fail
      go_ret
      exact ⟨rfl, GL.out⟩
  · have HM := Lib.hid hm
    have GG := Lib.hid (G1.out.trans g2)
    clear g2 hm
    go_wp2_with fail
    refine (lives8 _).mono ?_
    rintro e wl ⟨rfl, gl⟩
    have GL := Lib.hid (GG.out.trans gl)
    clear gl
    go_wp2_with fail
    go_ret
    exact ⟨rfl, GL.out⟩
end Go.Proofs.Ytncjfljmnkfghaa
