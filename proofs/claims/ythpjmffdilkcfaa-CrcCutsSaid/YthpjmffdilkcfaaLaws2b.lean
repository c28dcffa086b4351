/- The walk of the statement CrcApart. -/
import Derived.Test.YthpjmffdilkcfaaLaws2
namespace Go.Proofs.Ythpjmffdilkcfaa
open Go.RowKit

theorem RB.single {w : World} {B b o : Nat} {bs : List UInt8} (h : RB w B (some ⟨b, o, none⟩) bs) {k : Nat} (hk : k < bs.length) : RB w B (some ⟨b, o + k, none⟩) [bs[k]'hk] := by
  obtain ⟨b', o', e, hb, hc⟩ := h.at_ hk
  injection e with e
  injection e with e1 e2
  subst e1 e2
  refine ⟨rfl, fun _ => ⟨_, _, rfl, hb, fun j u hu => ?_⟩⟩
  match j, hu with
  | 0, hu => simp [bvs, bv] at hu; subst hu; simpa using hc
  | j + 1, hu => simp [bvs] at hu
theorem crcMore_next (r : Nat) (bs : List UInt8) (k : Nat) (hk : k < bs.length) : crcMore (crcMore r (bs.take k)) [bs[k]'hk] = crcMore r (bs.take (k + 1)) := by
  rw [List.take_succ_eq_append_getElem hk, crcMore_append]

set_option maxHeartbeats 1000000 in
set_option maxRecDepth 100000 in
theorem apart_walk (A B : Option Addr) (xs ys : List UInt8) (c d A0 B0 : Nat) (hc : xs.length ≤ c) (_hm : c ≤ 9223372036854775807) (hd : ys.length ≤ d) (_hm' : d ≤ 9223372036854775807) (hxl : xs.length ≤ 60) (hyl : ys.length ≤ 60) (w : World) (hr : RB w w.heap.size A xs) (hs : RB w w.heap.size B ys)
    (hf1 : ∀ w, Calls Try.prog 7 #[.slice A A0 c] w fun e w' => e = .returned (.slice A xs.length c) ∧ w = w')
    (hf2 : ∀ w, Calls Try.prog 7 #[.slice B B0 d] w fun e w' => e = .returned (.slice B ys.length d) ∧ w = w') :
    Calls Try.prog 5 #[.slice A A0 c, .slice B B0 d] w fun e w' => e = .returned (.bool true) ∧ Below w.heap.size w w' := by
  have HF1 := Lib.hid hf1
  have HF2 := Lib.hid hf2
  clear hf1 hf2
  go_enter Try.func5, Try.ntmps5
  go_wp2_with fail
  refine (HF1.out w).mono ?_
  rintro e w1 ⟨rfl, rfl⟩
  go_wp2_with fail
  refine (HF2.out w).mono ?_
  rintro e w1 ⟨rfl, rfl⟩
  clear HF1 HF2
  go_wp2_with fail
  refine (crc_new w).mono ?_
  rintro e w1 ⟨rfl, hone1, hb1, -⟩
  go_wp2_with fail
  refine (crc_new w1).mono ?_
  rintro e w2 ⟨rfl, hone2, hb2, -⟩
  have hz1 := hb1.size
  have hz2 := hb2.size
  have hlt1 := hone1.lt
  have hone1' := hone1.below hb2 hlt1
  obtain ⟨r0, hr0⟩ : ∃ r0 : Nat, r0 = 4294967295 := ⟨_, rfl⟩
  have hr0l : r0 < 2 ^ 32 := by omega
  have e0 : (r0 : Int) = 4294967295 := by omega
  rw [← e0] at hone1' hone2
  have hbw : Below w.heap.size w w2 := hb1.trans (hb2.mono hz1)
  obtain ⟨g, hg⟩ : ∃ g, g = w.heap.size := ⟨_, rfl⟩
  obtain ⟨h, hh⟩ : ∃ h, h = w1.heap.size := ⟨_, rfl⟩
  rw [← hg] at hone1' hlt1 ⊢
  rw [← hh] at hone2 hlt1 hz2 ⊢
  have hgw : w.heap.size ≤ g := by omega
  have HR0 := Lib.hid hr0
  clear e0 hr0 hone1 hb1 hb2 hz1 hg hh
  go_wp2_with fail
  go_loopw [7] (fun i wr => ∃ k : Nat, k ≤ 60 ∧ i = .int .i64 k ∧ One wr g 41 (.int .u32 ((crcMore r0 (xs.take k) : Nat) : Int)) ∧ One wr h 41 (.int .u32 ((crcMore r0 (ys.take k) : Nat) : Int)) ∧ Below w.heap.size w wr) (fun i _ => 60 - (intOf i).toNat)
  case atStart => exact ⟨0, by omega, rfl, by rw [List.take_zero]; exact hone1', by rw [List.take_zero]; exact hone2, hbw⟩
  case round =>
    obtain ⟨k, hk, rfl, h1, h2, hb⟩ := hrel
    clear hone1' hone2 hbw
    have hg1 : IntKind.i64.wrap ((k : Int) + 1) = (k : Int) + 1 := IntWalk.i64_in _ (by omega)
    have hkk : k + 1 - k = 1 := by omega
    by_cases h60 : k < 60
    · have m1 := crcMore_lt hr0l (xs.take k)
      have m2 := crcMore_lt hr0l (ys.take k)
      have hra := hr.below hb
      have hrb := hs.below hb
      have hz := hb.size
      by_cases hx : k < xs.length
      · obtain ⟨b, o, rfl, hbB, -⟩ := hra.at_ hx
        have hck : ¬ c = k := by omega
        have hs1 := hra.single hx
        have hn1 := crcMore_next r0 xs k hx
        obtain ⟨u, hu⟩ : ∃ u, u = xs[k]'hx := ⟨_, rfl⟩
        rw [← hu] at hs1 hn1
        have HN1 := Lib.hid hn1
        clear hn1 hu
        go_wp2_with fail
        refine (crc_add g _ _ [u] 1 _ rfl w.heap.size wr h1 m1 hs1 hz (fun a ha => by injection ha with ha; subst ha; show b ≠ g; omega) (by simp)).mono ?_
        rintro e w3 ⟨rfl, h1', hg3⟩
        rw [HN1.out] at h1'
        have h2' := h2.grown hg3 (by intro e; injection e with e; omega)
        have hb3 := hb.grown hg3 hz (fun q hq => by injection hq with hq; omega)
        have hrb3 := hs.below hb3
        have hz3 := hb3.size
        clear h1 h2 hb hra hrb hz hg3 hs1 m1
        by_cases hy : k < ys.length
        · obtain ⟨b2, o2, rfl, hbB2, -⟩ := hrb3.at_ hy
          have hdk : ¬ d = k := by omega
          have hs2 := hrb3.single hy
          have hn2 := crcMore_next r0 ys k hy
          obtain ⟨v, hv⟩ : ∃ u, u = ys[k]'hy := ⟨_, rfl⟩
          rw [← hv] at hs2 hn2
          have HN2 := Lib.hid hn2
          clear hn2 hv
          go_wp2_with fail
          refine (crc_add h _ _ [v] 1 _ rfl w.heap.size w3 h2' m2 hs2 hz3 (fun a ha => by injection ha with ha; subst ha; show b2 ≠ h; omega) (by simp)).mono ?_
          rintro e w4 ⟨rfl, h2'', hg4⟩
          rw [HN2.out] at h2''
          have h1'' := h1'.grown hg4 (by intro e; injection e with e; omega)
          go_wp2_with fail
          go_roundw
          case rel => exact ⟨k + 1, by omega, by go_num, h1'', h2'', hb3.grown hg4 hz3 (fun q hq => by injection hq with hq; omega)⟩
          case measure => simp [intOf]; omega
        · have ht : ys.take (k + 1) = ys.take k := by rw [List.take_of_length_le (by omega), List.take_of_length_le (by omega)]
          have HT := Lib.hid ht
          clear ht
          go_wp2_with fail
          go_roundw
          case rel => exact ⟨k + 1, by omega, by go_num, h1', by rw [HT.out]; exact h2', hb3⟩
          case measure => simp [intOf]; omega
      · have htx : xs.take (k + 1) = xs.take k := by rw [List.take_of_length_le (by omega), List.take_of_length_le (by omega)]
        have HTX := Lib.hid htx
        clear htx m1 hra
        by_cases hy : k < ys.length
        · obtain ⟨b2, o2, rfl, hbB2, -⟩ := hrb.at_ hy
          have hdk : ¬ d = k := by omega
          have hs2 := hrb.single hy
          have hn2 := crcMore_next r0 ys k hy
          obtain ⟨v, hv⟩ : ∃ u, u = ys[k]'hy := ⟨_, rfl⟩
          rw [← hv] at hs2 hn2
          have HN2 := Lib.hid hn2
          clear hn2 hv
          go_wp2_with fail
          refine (crc_add h _ _ [v] 1 _ rfl w.heap.size wr h2 m2 hs2 hz (fun a ha => by injection ha with ha; subst ha; show b2 ≠ h; omega) (by simp)).mono ?_
          rintro e w4 ⟨rfl, h2'', hg4⟩
          rw [HN2.out] at h2''
          have h1'' := h1.grown hg4 (by intro e; injection e with e; omega)
          go_wp2_with fail
          go_roundw
          case rel => exact ⟨k + 1, by omega, by go_num, by rw [HTX.out]; exact h1'', h2'', hb.grown hg4 hz (fun q hq => by injection hq with hq; omega)⟩
          case measure => simp [intOf]; omega
        · have ht : ys.take (k + 1) = ys.take k := by rw [List.take_of_length_le (by omega), List.take_of_length_le (by omega)]
          have HT := Lib.hid ht
          clear ht
          go_wp2_with fail
          go_roundw
          case rel => exact ⟨k + 1, by omega, by go_num, by rw [HTX.out]; exact h1, by rw [HT.out]; exact h2, hb⟩
          case measure => simp [intOf]; omega
    · obtain rfl : k = 60 := by omega
      rw [List.take_of_length_le hxl] at h1
      rw [List.take_of_length_le hyl] at h2
      have m1 := crcMore_lt hr0l xs
      have m2 := crcMore_lt hr0l ys
      have hfx : 4294967295 - crcMore r0 xs = crcN xs := by rw [HR0.out, crcN]
      have hfy : 4294967295 - crcMore r0 ys = crcN ys := by rw [HR0.out, crcN]
      have HFX := Lib.hid hfx
      have HFY := Lib.hid hfy
      have hra := hr.below hb
      have hz := hb.size
      clear hfx hfy hkk hg1
      go_wp2_with fail
      refine (crc_hsum g _ wr h1 m1).mono ?_
      rintro e w3 ⟨rfl, rfl⟩
      rw [HFX.out]
      go_wp2_with fail
      refine (crc_sum A xs xs.length c rfl wr (hra.more hz) (by omega)).mono ?_
      rintro e w3 ⟨rfl, hb3⟩
      have hb3' : Below w.heap.size w w3 := hb.trans (hb3.mono hz)
      have h2' := h2.below hb3 h2.lt
      have hrb := hs.below hb3'
      have hz3 := hb3'.size
      clear h1 h2 hb hb3 hra hz
      go_wp2_with fail
      refine (crc_hsum h _ w3 h2' m2).mono ?_
      rintro e w4 ⟨rfl, rfl⟩
      rw [HFY.out]
      go_wp2_with fail
      refine (crc_sum B ys ys.length d rfl w3 (hrb.more hz3) (by omega)).mono ?_
      rintro e w4 ⟨rfl, hb4⟩
      have hb4' : Below w.heap.size w w4 := hb3'.trans (hb4.mono hz3)
      clear h2' hb4 hb3' hrb
      go_wp2_with fail
      refine (lives2_any _).mono ?_
      rintro e w5 ⟨rfl, hb5⟩
      go_wp2_with fail
      go_ret
      exact ⟨rfl, hb4'.trans (hb5.mono hb4'.size)⟩

theorem law_CrcApart (A B : Option Addr) (xs ys : List UInt8) (c d : Nat) (hc : xs.length ≤ c) (hm : c ≤ maxLen) (hd : ys.length ≤ d) (hm' : d ≤ maxLen) (w : World) (hr : RB w w.heap.size A xs) (hs : RB w w.heap.size B ys) :
    Calls Try.prog 5 #[.slice A xs.length c, .slice B ys.length d] w fun e w' => e = .returned (.bool true) ∧ Below w.heap.size w w' := by
  have hx : (xs.take 60).length ≤ 60 := by rw [List.length_take]; omega
  have hy : (ys.take 60).length ≤ 60 := by rw [List.length_take]; omega
  have hx2 : (xs.take 60).length ≤ c := by rw [List.length_take]; omega
  have hy2 : (ys.take 60).length ≤ d := by rw [List.length_take]; omega
  refine apart_walk A B (xs.take 60) (ys.take 60) c d xs.length ys.length hx2 (by unfold maxLen at hm; omega) hy2 (by unfold maxLen at hm'; omega) hx hy w (hr.first 60) (hs.first 60) (fun w => few2_any A xs c hc hm w) (fun w => few2_any B ys d hd hm' w)
end Go.Proofs.Ythpjmffdilkcfaa
