/- The walk of the statement CrcCuts. -/
import Derived.Test.YthpjmffdilkcfaaLaws2b
import Derived.Test.YthpjmffdilkcfaaOpen2
namespace Go.Proofs.Ythpjmffdilkcfaa
open Go.RowKit

/-- What has been added behind k parts. -/
def allL (L : List (List UInt8)) : Nat → List UInt8
  | 0 => []
  | k + 1 => allL L k ++ (L.getD k []).take 60
theorem allL_length (L : List (List UInt8)) (k : Nat) : (allL L k).length ≤ 60 * k := by
  induction k with
  | zero => simp [allL]
  | succ k ih => rw [allL, List.length_append, List.length_take]; omega

theorem RB.grownAt {w w' : World} {B g : Nat} {A : Option Addr} {bs : List UInt8} (h : RB w B A bs) (hg : w.grownBy w' (some g)) (hB : B ≤ w.heap.size) (hgB : B ≤ g) : RB w' B A bs := by
  refine ⟨h.1, fun hn => ?_⟩
  obtain ⟨b, o, e, hb, hc⟩ := h.2 hn
  refine ⟨b, o, e, hb, fun j u hu => ?_⟩
  rw [← hc j u hu]
  exact World.cell?_of_block (hg.block b (by omega) (fun e2 => by injection e2 with e2; omega))

theorem OB.later {w w' : World} {base : Nat} {v : Value} {bs : List UInt8} (h : OB w base v bs) (hb : Below w.heap.size w w') : OB w' base v bs :=
  World.ownsRow.kept h ⟨hb.os, hb.tape, hb.output, hb.size, fun k hk _ => hb.block k hk⟩ (by cases hv : v.ownBlock <;> simp : v.ownBlock = none ∨ v.ownBlock ≠ none)

theorem OB.kept {w w' : World} {base g : Nat} {v : Value} {bs : List UInt8} (h : OB w base v bs) (hg : w.grownBy w' (some g)) (hgb : g < base) : OB w' base v bs := by
  refine World.ownsRow.kept h hg ?_
  cases hv : v.ownBlock with
  | none => exact .inl rfl
  | some b =>
    right
    intro e
    injection e with e
    have := (h.lt b hv).1
    omega

set_option maxHeartbeats 1000000 in
theorem law_CrcCuts (A : Option Addr) (L : List (List UInt8)) (c : Nat) (w : World) (hr : Parts w w.heap.size A L) :
    Calls Try.prog 6 #[.slice A L.length c] w fun e w' => e = .returned (.bool true) ∧ Below w.heap.size w w' := by
  go_enter Try.func6, Try.ntmps6
  go_wp2_with fail
  refine (crc_new w).mono ?_
  rintro e w1 ⟨rfl, hone1, hb1, -⟩
  have hz1 := hb1.size
  have hlt1 := hone1.lt
  obtain ⟨r0, hr0⟩ : ∃ r0 : Nat, r0 = 4294967295 := ⟨_, rfl⟩
  have hr0l : r0 < 2 ^ 32 := by omega
  have e0 : (r0 : Int) = 4294967295 := by omega
  rw [← e0] at hone1
  obtain ⟨g, hg⟩ : ∃ g, g = w.heap.size := ⟨_, rfl⟩
  rw [← hg] at hone1 hlt1 ⊢
  have hgw : w.heap.size ≤ g := by omega
  have HR0 := Lib.hid hr0
  have HE0 := Lib.hid e0
  clear e0 hr0 hg
  go_wp2_with fail
  go_loopw [4, 5] (fun v i wr => ∃ k : Nat, k ≤ L.length ∧ k ≤ 12 ∧ i = .int .i64 k ∧ One wr g 41 (.int .u32 ((crcMore r0 (allL L k) : Nat) : Int)) ∧ OB wr w1.heap.size v (allL L k) ∧ Below w.heap.size w wr ∧ w1.heap.size ≤ wr.heap.size) (fun _ i _ => 12 - (intOf i).toNat)
  case atStart => exact ⟨0, by omega, by omega, rfl, hone1, OB.nil _ _, hb1, Nat.le_refl _⟩
  case round =>
    obtain ⟨k, hk, hk12, rfl, h1, hown, hb, hzw⟩ := hrel
    clear hone1 hb1
    have m1 := crcMore_lt hr0l (allL L k)
    have hal := allL_length L k
    by_cases hgo : k < L.length ∧ k < 12
    · obtain ⟨hlt, hlt12⟩ := hgo
      obtain ⟨b, o, rfl, hbB, hel⟩ := hr.below hb (by omega)
      obtain ⟨Ak, ck, hcell, hrk, hlk, hmk, -⟩ := hel k hlt
      have hnext : allL L (k + 1) = allL L k ++ (L[k]).take 60 := by
        rw [allL, List.getD_eq_getElem?_getD, List.getElem?_eq_getElem hlt]; rfl
      obtain ⟨P, hP⟩ : ∃ P, P = L[k]'hlt := ⟨_, rfl⟩
      rw [← hP] at hcell hrk hlk hnext
      have hf := fun w => few2_any Ak P ck hlk hmk w
      have hpl : (P.take 60).length ≤ 60 := by rw [List.length_take]; omega
      have hrq := hrk.first 60
      obtain ⟨Q, hQ⟩ : ∃ Q, Q = P.take 60 := ⟨_, rfl⟩
      rw [← hQ] at hf hpl hrq hnext
      have hmore : crcMore (crcMore r0 (allL L k)) Q = crcMore r0 (allL L (k + 1)) := by rw [hnext, crcMore_append]
      have HF := Lib.hid hf
      have HN := Lib.hid hnext
      have HM := Lib.hid hmore
      have hz := hb.size
      clear hf hnext hmore hel hP hQ hrk hlk
      go_wp2_with fail
      refine (HF.out _).mono ?_
      rintro e w2 ⟨rfl, rfl⟩
      go_wp2_with fail
      refine (crc_add' g _ Ak Q Q.length ck rfl w.heap.size wr h1 m1 hrq hz (fun a ha h0 => by
        obtain ⟨b', o', e, hlt', -⟩ := hrq.all h0
        rw [ha] at e
        injection e with e
        subst e
        show b' ≠ g
        omega) (by omega)).mono ?_
      rintro e w2 ⟨rfl, h1', hg2⟩
      rw [HM.out] at h1'
      have hown2 := hown.kept hg2 hlt1
      have hb2 := hb.grown hg2 hz (fun q hq => by injection hq with hq; omega)
      have hz2 := hb2.size
      have hcell2 : w2.cell? ⟨b, o + k, none⟩ = some (.slice Ak P.length ck) := by
        rw [← hcell]
        exact World.cell?_of_block (hg2.block b (by omega) (fun e => by injection e with e; omega))
      have hrq2 : RB w2 w.heap.size Ak Q := hrq.grownAt hg2 hz hgw
      have hzz := hg2.size
      clear h1 hown hb hz hg2 hcell hrq m1
      go_wp2_with fail
      refine (HF.out _).mono ?_
      rintro e w3 ⟨rfl, rfl⟩
      go_wp2_with (at_builtin; refine wpList_appB rfl (.tmp 26) (.tmp 31) rfl w1.heap.size _ _ rfl hown2 w.heap.size Ak ck Q Q.length rfl rfl hrq2 (by omega) (by omega) ?_; intro v3 w3 hown3 hb3 hq1 hq2; clear hq1 hq2)
      rw [← HN.out] at hown3
      have h1'' := h1'.below hb3 (by omega)
      have hb3' := hb2.trans (hb3.mono (by omega))
      have hz3 := hb3.size
      have m2 := crcMore_lt hr0l (allL L (k + 1))
      have hal2 := allL_length L (k + 1)
      have hfin : 4294967295 - crcMore r0 (allL L (k + 1)) = crcN (allL L (k + 1)) := by rw [HR0.out, crcN]
      have HFIN := Lib.hid hfin
      obtain ⟨A3, c3, rfl, -, -, hrd3, -⟩ := hown3.form
      clear hown2 hrq2 hb3 hb2 h1' hcell2 hfin
      go_wp2_with fail
      refine (crc_hsum g _ w3 h1'' m2).mono ?_
      rintro e w4 ⟨rfl, rfl⟩
      rw [HFIN.out]
      go_wp2_with fail
      refine (crc_sum A3 _ _ c3 rfl w3 hrd3 (by omega)).mono ?_
      rintro e w4 ⟨rfl, hb4⟩
      have h1a := h1''.below hb4 h1''.lt
      have hown4 : OB w4 w1.heap.size (.slice A3 (allL L (k + 1)).length c3) (allL L (k + 1)) := hown3.later hb4
      have hb4' := hb3'.trans (hb4.mono hb3'.size)
      have hz4 := hb4.size
      clear hown3 hrd3 h1'' hb4 hb3'
      go_wp2_with fail
      refine (crc_hsum g _ w4 h1a m2).mono ?_
      rintro e w5 ⟨rfl, rfl⟩
      go_wp2_with fail
      refine (crc_hsum g _ w4 h1a m2).mono ?_
      rintro e w5 ⟨rfl, rfl⟩
      go_wp2_with fail
      go_roundw
      case rel => exact ⟨k + 1, by omega, by omega, by go_num, h1a, hown4, hb4', by omega⟩
      case measure => simp [intOf]; omega
    · obtain ⟨A3, c3, rfl, -, -, hrd3, -⟩ := hown.form
      have hgo2 : L.length ≤ k ∨ (k < L.length ∧ 12 ≤ k) := by omega
      have hz := hb.size
      have he := HE0.out
      have hfin : ((4294967295 - 4294967295 : Nat) : Int) = 0 := rfl
      have hcl := crcN_lt (allL L k)
      clear hgo hfin he
      rcases hgo2 with hgo2 | ⟨hgo3, hgo2⟩
      all_goals
        go_wp2_with fail
        refine (crc_reset g _ _ rfl wr h1).mono ?_
        rintro e w2 ⟨rfl, h2, hg2⟩
        have hown2 := hown.kept hg2 hlt1
        have hb2 := hb.grown hg2 hz (fun q hq => by injection hq with hq; omega)
        have hrd2 := OB.rd rfl hown2
        rw [← HE0.out] at h2
        have hs0 : 4294967295 - r0 = 0 := by rw [HR0.out]
        have HS0 := Lib.hid hs0
        have hz2 := hb2.size
        clear h1 hown hb hg2 hrd3 hs0 hown2
        go_wp2_with fail
        refine (crc_hsum g r0 w2 h2 hr0l).mono ?_
        rintro e w3 ⟨rfl, rfl⟩
        rw [HS0.out]
        go_wp2_with fail
        refine (crc_sum A3 _ _ c3 rfl w2 hrd2 (by omega)).mono ?_
        rintro e w3 ⟨rfl, hb3⟩
        have hb3' := hb2.trans (hb3.mono hz2)
        have hrd3 := hrd2.below hb3
        clear hb2 hb3 hrd2 h2
        go_wp2_with fail
        refine (ref2_sum A3 _ _ c3 rfl _ w3 hrd3 (by omega)).mono ?_
        rintro e w4 ⟨rfl, rfl⟩
        go_wp2_with fail
        refine (lives2_any _).mono ?_
        rintro e w5 ⟨rfl, hb5⟩
        go_wp2_with fail
        go_ret
        exact ⟨rfl, hb3'.trans (hb5.mono hb3'.size)⟩
end Go.Proofs.Ythpjmffdilkcfaa
