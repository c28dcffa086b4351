/- The walks of the reference of layer 1. -/
import Derived.Test.YtnbgkkjhmdfmiaaBits
namespace Go.Proofs.Ytnbgkkjhmdfmiaa
open Go.RowKit

theorem ref1_power (n : Nat) (hn : n ≤ 7) (w : World) : Calls Try.prog 50 #[.int .i64 n] w fun e w' => e = .returned (.int .i64 ((256 ^ n : Nat) : Int)) ∧ w = w' := by
  go_enter Try.func50, Try.ntmps50
  go_wp2
  go_loop [3, 4] (fun p i => ∃ k : Nat, k ≤ n ∧ i = .int .i64 k ∧ p = .int .i64 ((256 ^ k : Nat) : Int)) (fun _ i => n - (intOf i).toNat)
  case atStart => exact ⟨0, Nat.zero_le _, rfl, rfl⟩
  case round =>
    obtain ⟨k, hk, rfl, rfl⟩ := hrel
    by_cases hlt : k < n
    · have h7 : (256 : Nat) ^ k ≤ 256 ^ 6 := Nat.pow_le_pow_right (by omega) (by omega)
      have e7 : (256 : Nat) ^ 6 = 281474976710656 := by decide
      obtain ⟨p, hp⟩ : ∃ p : Nat, p = 256 ^ k := ⟨_, rfl⟩
      rw [← hp] at h7 ⊢
      have HP := Lib.hid hp
      clear hp
      rw [e7] at h7
      clear e7
      go_wp2
      go_round
      case rel => exact ⟨k + 1, by omega, by go_num, by rw [Nat.pow_succ, ← HP.out]; go_num⟩
      case measure => simp [intOf]; omega
    · obtain rfl : k = n := by omega
      go_wp2
      go_ret
      exact ⟨rfl, rfl⟩

theorem ref1_power1 (w : World) : Calls Try.prog 50 #[.int .i64 1] w fun e w' => e = .returned (.int .i64 256) ∧ w = w' := ref1_power 1 (by omega) w
theorem ref1_power2 (w : World) : Calls Try.prog 50 #[.int .i64 2] w fun e w' => e = .returned (.int .i64 65536) ∧ w = w' := ref1_power 2 (by omega) w
theorem ref1_power4 (w : World) : Calls Try.prog 50 #[.int .i64 4] w fun e w' => e = .returned (.int .i64 4294967296) ∧ w = w' := ref1_power 4 (by omega) w

theorem ref1_fits (n x : Int) (w : World) :
    Calls Try.prog 44 #[.int .i64 n, .int .i64 x] w fun e w' => e = .returned (.bool (fitsB n x)) ∧ w = w' := by
  by_cases hn : 0 ≤ n
  · by_cases h1 : x = 1 ∨ x = 2 ∨ x = 4
    · rcases h1 with rfl | rfl | rfl
      all_goals
        go_enter Try.func44, Try.ntmps44
        go_wp2_with fail
      · refine (ref1_power1 _).mono ?_; rintro e w' ⟨rfl, rfl⟩; go_wp2; go_ret; exact ⟨ret_bool (by rw [Bool.eq_iff_iff]; simp [fitsB, hn]), rfl⟩
      · refine (ref1_power2 _).mono ?_; rintro e w' ⟨rfl, rfl⟩; go_wp2; go_ret; exact ⟨ret_bool (by rw [Bool.eq_iff_iff]; simp [fitsB, hn]), rfl⟩
      · refine (ref1_power4 _).mono ?_; rintro e w' ⟨rfl, rfl⟩; go_wp2; go_ret; exact ⟨ret_bool (by rw [Bool.eq_iff_iff]; simp [fitsB, hn]), rfl⟩
    · by_cases h8 : x = 8
      · subst h8
        go_enter Try.func44, Try.ntmps44
        go_wp2_with fail
        go_ret
        exact ⟨ret_bool (by rw [Bool.eq_iff_iff]; simp [fitsB, hn]), rfl⟩
      · have a1 : (x != 1) = true := by simp; omega
        have a2 : (x != 2) = true := by simp; omega
        have a4 : (x != 4) = true := by simp; omega
        go_enter Try.func44, Try.ntmps44
        go_wp2_with fail
        go_ret
        exact ⟨ret_bool (by simp [fitsB]; omega), rfl⟩
  · go_enter Try.func44, Try.ntmps44
    go_wp2_with fail
    go_ret
    exact ⟨ret_bool (by simp [fitsB]; omega), rfl⟩

theorem byte_mod (m : Nat) : ((UInt8.ofNat (m % 256)).toNat : Int) = (m : Int) % 256 := by simp

theorem ref1_put (A : Option Addr) (bs : List UInt8) (c : Nat) (n x : Int) (w : World) (hr : RB w w.heap.size A bs) (hl : bs.length ≤ 1073741824) (h1 : n ≤ 9223372036854775807) :
    Calls Try.prog 32 #[.slice A bs.length c, .int .i64 n, .int .i64 x] w fun e w' => ∃ v, e = .returned v ∧ OB w' w.heap.size v (putB bs n x) ∧ Below w.heap.size w w' := by
  have ho := OB.nil w w.heap.size
  go_enter Try.func32, Try.ntmps32
  go_wp2_with (at_builtin; refine wpList_appB rfl (.tmp 10) (.tmp 11) rfl w.heap.size _ [] rfl ho w.heap.size A c bs bs.length rfl rfl hr (by simp; omega) (Nat.le_refl _) ?_; intro v1 w1 hown hb _ _)
  by_cases hf : fitsB n x = true
  · have hx := fits_width hf
    have hn := fits_nat hf
    obtain ⟨wd, rfl⟩ : ∃ wd : Nat, x = wd := ⟨x.toNat, by omega⟩
    obtain ⟨m, rfl⟩ := Int.eq_ofNat_of_zero_le hn
    have hwd : wd ≤ 8 := by omega
    clear hx
    refine (ref1_fits _ _ _).mono ?_
    rintro e w2 ⟨rfl, rfl⟩
    go_wp2_with fail
    go_loopw [1, 7, 9] (fun q v i wr => ∃ k : Nat, k ≤ wd ∧ i = .int .i64 k ∧ q = .int .i64 ((m / 256 ^ k : Nat) : Int) ∧ OB wr w.heap.size v (bs ++ leB m k) ∧ Below w.heap.size w wr) (fun _ _ i _ => wd - (intOf i).toNat)
    case atStart => exact ⟨0, Nat.zero_le _, rfl, by simp, by simpa [leB] using hown, hb⟩
    case round =>
      obtain ⟨k, hk, rfl, rfl, hown, hb⟩ := hrel
      by_cases hlt : k < wd
      · have hq : m / 256 ^ k ≤ m := Nat.div_le_self _ _
        obtain ⟨q, hqe⟩ : ∃ q : Nat, q = m / 256 ^ k := ⟨_, rfl⟩
        rw [← hqe] at hq ⊢
        have HQ := Lib.hid hqe
        clear hqe
        have hz := hb.size
        have hby := byte_mod q
        have HB := Lib.hid hby
        clear hby
        go_wp2_with (at_builtin; refine wpList_app1 rfl (.tmp 24) (.tmp 28) rfl w.heap.size _ _ rfl _ rfl hown _ HB.out (by simp [leB_length]; omega) hz ?_; intro v1 w2 hown1 hb1)
        go_roundw
        case rel => exact ⟨k + 1, by omega, by go_num, by rw [Nat.pow_succ, ← Nat.div_div_eq_div_mul, ← HQ.out]; go_num, by rw [leB_snoc, ← List.append_assoc, ← HQ.out]; exact hown1, hb.trans hb1⟩
        case measure => simp [intOf]; omega
      · obtain rfl : k = wd := by omega
        go_wp2
        go_ret
        exact ⟨_, rfl, by simpa [putB, hf] using hown, hb⟩
  · have hf : fitsB n x = false := by simpa using hf
    refine (ref1_fits _ _ _).mono ?_
    rintro e w2 ⟨rfl, rfl⟩
    rw [hf]
    go_wp2_with fail
    go_ret
    exact ⟨_, rfl, by simpa [putB, hf] using hown, hb⟩

theorem ref1_same (A A' : Option Addr) (xs ys : List UInt8) (c c' B B' : Nat) (w : World) (hx : RB w B A xs) (hy : RB w B' A' ys) (hl : xs.length ≤ 1073741824) (hl' : ys.length ≤ 1073741824) :
    Calls Try.prog 16 #[.slice A xs.length c, .slice A' ys.length c'] w fun e w' => e = .returned (.bool (decide (xs = ys))) ∧ ∃ n, w' = w.drewN n := by
  by_cases hlen : xs.length = ys.length
  · have hle1 : xs.length ≤ ys.length := Nat.le_of_eq hlen
    have hle2 : ys.length ≤ xs.length := Nat.le_of_eq hlen.symm
    clear hlen
    go_enter Try.func16, Try.ntmps16
    go_wp2
    go_loopw [5] (fun i wr => ∃ k n : Nat, k ≤ xs.length ∧ i = .int .i64 k ∧ xs.take k = ys.take k ∧ wr = w.drewN n) (fun i _ => xs.length - (intOf i).toNat)
    case atStart => exact ⟨0, 0, Nat.zero_le _, rfl, rfl, rfl⟩
    case round =>
      obtain ⟨k, n, hk, rfl, ht, rfl⟩ := hrel
      have HT := Lib.hid ht
      clear ht
      by_cases hlt : k < xs.length
      · obtain ⟨b, o, rfl, _, hc⟩ := hx.at_ hlt
        obtain ⟨b', o', rfl, _, hc'⟩ := hy.at_ (k := k) (by omega)
        obtain ⟨u, hu⟩ : ∃ u, u = xs[k]'hlt := ⟨_, rfl⟩
        obtain ⟨u', hu'⟩ : ∃ u, u = ys[k]'(by omega) := ⟨_, rfl⟩
        rw [← hu] at hc
        rw [← hu'] at hc'
        have HU := Lib.hid hu
        have HU' := Lib.hid hu'
        clear hu hu'
        have hky : k < ys.length := by omega
        by_cases he : u = u'
        · have heq : ((u.toNat : Int) != (u'.toNat : Int)) = false := by simp [he]
          have HE := Lib.hid he
          clear he
          go_wp2
          go_quiet (fail)
          go_wp2
          go_roundw
          case rel =>
            refine ⟨k + 1, _, by omega, by go_num, ?_, rfl⟩
            rw [List.take_succ_eq_append_getElem hlt, List.take_succ_eq_append_getElem hky, HT.out, ← HU.out, ← HU'.out, HE.out]
          case measure => simp [intOf]; omega
        · have heq : ((u.toNat : Int) != (u'.toNat : Int)) = true := by
            simp only [bne_iff_ne, ne_eq, Int.ofNat_inj]
            exact fun h => he (UInt8.toNat_inj.1 h)
          have HE := Lib.hid he
          clear he
          go_wp2
          go_quiet (fail)
          go_wp2
          go_ret
          refine ⟨ret_bool ?_, _, World.drewN_drewN ..⟩
          symm
          simp only [decide_eq_false_iff_not]
          rintro rfl
          exact HE.out (HU.out.trans HU'.out.symm)
      · obtain rfl : k = xs.length := by omega
        go_wp2
        go_ret
        refine ⟨ret_bool ?_, _, rfl⟩
        symm
        simp only [decide_eq_true_eq]
        have h := HT.out
        rw [List.take_of_length_le (Nat.le_refl _), List.take_of_length_le hle2] at h
        exact h
  · go_enter Try.func16, Try.ntmps16
    go_wp2
    go_ret
    refine ⟨ret_bool ?_, 0, rfl⟩
    simp
    rintro rfl
    exact hlen rfl

theorem leVal_drop (bs : List UInt8) (k : Nat) (hk : k ≤ bs.length) : leVal bs = leVal (bs.take k) + 256 ^ k * leVal (bs.drop k) := by
  induction k generalizing bs with
  | zero => simp [leVal]
  | succ k ih =>
    match bs, hk with
    | u :: t, hk =>
      rw [List.take_succ_cons, List.drop_succ_cons, leVal, leVal, ih t (by simpa using hk), Nat.pow_succ, Nat.mul_comm (256 ^ k) 256, Nat.mul_add, Nat.mul_assoc]
      omega
theorem leVal_cons (bs : List UInt8) (k : Nat) (hk : k < bs.length) : leVal (bs.drop k) = (bs[k]).toNat + 256 * leVal (bs.drop (k + 1)) := by
  rw [List.drop_eq_getElem_cons hk, leVal]
theorem leVal_part (bs : List UInt8) (k : Nat) : leVal (bs.drop k) ≤ leVal bs := by
  by_cases hk : k ≤ bs.length
  · rw [leVal_drop bs k hk]
    have : leVal (bs.drop k) ≤ 256 ^ k * leVal (bs.drop k) := Nat.le_mul_of_pos_left _ (Nat.pow_pos (by omega))
    omega
  · rw [List.drop_eq_nil_of_le (by omega)]
    simp [leVal]
/-- The top byte of eight tells whether the number is too great. -/
theorem leVal_top (bs : List UInt8) (h : bs.length = 8) : leVal bs < 9223372036854775808 ↔ (bs[7]'(by omega)).toNat < 128 := by
  have h7 := leVal_drop bs 7 (by omega)
  have hc := leVal_cons bs 7 (by omega)
  rw [List.drop_eq_nil_of_le (show bs.length ≤ 7 + 1 by omega), leVal] at hc
  have hl := leVal_lt (bs.take 7)
  rw [List.length_take, Nat.min_eq_left (by omega)] at hl
  have e : (256 : Nat) ^ 7 = 72057594037927936 := by decide
  rw [e] at hl h7
  omega

set_option maxHeartbeats 800000 in
set_option maxRecDepth 100000 in
theorem ref1_get_yes (A : Option Addr) (bs : List UInt8) (c : Nat) (at_ x : Int) (h0 : -9223372036854775808 ≤ at_) (h1 : at_ ≤ 9223372036854775807) (B : Nat) (w : World) (hr : RB w B A bs) (hl : bs.length ≤ 1073741824)
    (hrm : isW x = true ∧ 0 ≤ at_ ∧ at_ + x ≤ bs.length) (hbig : leVal ((bs.drop at_.toNat).take x.toNat) < 9223372036854775808) :
    Calls Try.prog 36 #[.slice A bs.length c, .int .i64 at_, .int .i64 x] w fun e w' => e = .returned (.tuple #[.int .i64 (getN bs at_ x), .bool (getK bs at_ x)]) ∧ w = w' := by
  obtain ⟨hw, ha, hle⟩ := hrm
  have hwd : x = 8 ∨ x = 4 ∨ x = 2 ∨ x = 1 := by simp [isW] at hw; omega
  obtain ⟨a, rfl⟩ := Int.eq_ofNat_of_zero_le ha
  obtain ⟨wd, rfl⟩ : ∃ wd : Nat, x = wd := ⟨x.toNat, by omega⟩
  obtain ⟨b, o, rfl, hbB, hc⟩ := hr.all (by omega)
  have HC := Lib.hid hc
  clear hc
  have hseg : ((bs.drop a).take wd).length = wd := by simp; omega
  obtain ⟨seg, hsg⟩ : ∃ seg, seg = (bs.drop a).take wd := ⟨_, rfl⟩
  rw [← hsg] at hseg
  have hsk : ∀ k, k < wd → ∃ u : UInt8, seg[k]? = some u ∧ w.cell? ⟨b, o + (a + k), none⟩ = some (.int .u8 (u.toNat : Int)) := by
    intro k h
    refine ⟨bs[a + k]'(by omega), ?_, HC.out (a + k) (by omega)⟩
    subst hsg
    rw [List.getElem?_take, if_pos h, List.getElem?_drop, List.getElem?_eq_getElem]
  have hbig : leVal seg < 9223372036854775808 := by rw [hsg]; exact hbig
  have hg := get_small (bs := bs) (a := a) hw (by omega) (by rw [hsg]) hbig
  have HG := Lib.hid hg
  have HSEG := Lib.hid hseg
  have HSK := Lib.hid hsk
  have htop : (wd = 8 ∧ ∃ t : Nat, w.cell? ⟨b, o + (a + 7), none⟩ = some (.int .u8 (t : Int)) ∧ t < 128) ∨ wd = 4 ∨ wd = 2 ∨ wd = 1 := by
    by_cases h8 : wd = 8
    · left
      obtain ⟨u, hu, hcu⟩ := hsk 7 (by omega)
      refine ⟨h8, _, hcu, ?_⟩
      have h := (leVal_top seg (by omega)).1 hbig
      rw [List.getElem?_eq_getElem (by omega)] at hu
      injection hu with hu
      rw [← hu]
      exact h
    · omega
  have hwd8 : wd ≤ 8 := by omega
  have hwd1 : 1 ≤ wd := by omega
  have hab : a + wd ≤ bs.length := by omega
  have HB := Lib.hid hbig
  clear hg hseg hsk hw hwd hsg hle hbig HC
  rcases htop with ⟨rfl, t, ht, ht8⟩ | rfl | rfl | rfl
  all_goals
    go_enter Try.func36, Try.ntmps36
    go_wp2_with fail
    go_loop [8, 9] (fun n i => ∃ j : Nat, j ≤ seg.length ∧ i = .int .i64 ((j : Int) - 1) ∧ n = .int .i64 (leVal (seg.drop j) : Nat)) (fun _ i => (intOf i + 1).toNat)
    case atStart =>
      refine ⟨seg.length, Nat.le_refl _, ?_, ?_⟩
      · rw [HSEG.out]; rfl
      · rw [List.drop_eq_nil_of_le (Nat.le_refl _)]; rfl
    case round =>
      obtain ⟨j, hj, rfl, rfl⟩ := hrel
      cases j with
      | zero =>
        rw [show ((0 : Nat) : Int) - 1 = -1 from rfl, List.drop_zero]
        go_wp2
        go_ret2
        exact ⟨ret_int_bool HG.out.1.symm HG.out.2.symm, rfl⟩
      | succ j =>
        have hjw2 := HSEG.out
        obtain ⟨u, hu, hcu⟩ := HSK.out j (by omega)
        have hjw : j < seg.length := by omega
        have hval : leVal (seg.drop j) = u.toNat + 256 * leVal (seg.drop (j + 1)) := by
          rw [leVal_cons seg j hjw]
          rw [List.getElem?_eq_getElem hjw] at hu
          injection hu with hu
          rw [hu]
        have hpart := leVal_part seg j
        have hsmall := HB.out
        obtain ⟨m, hm⟩ : ∃ m, m = leVal (seg.drop (j + 1)) := ⟨_, rfl⟩
        rw [← hm] at hval ⊢
        have hbound : 256 * m + u.toNat < 9223372036854775808 := by omega
        have HV := Lib.hid hval
        have hidx : a + j < bs.length := by omega
        clear hm hval hpart hsmall hu hjw2
        rw [show ((j + 1 : Nat) : Int) - 1 = (j : Int) by omega]
        go_wp2
        go_round
        case rel => exact ⟨j, by omega, by go_num, by rw [HV.out]; go_num⟩
        case measure => simp [intOf]

set_option maxHeartbeats 800000 in
set_option maxRecDepth 100000 in
theorem ref1_get_big (A : Option Addr) (bs : List UInt8) (c : Nat) (at_ x : Int) (h0 : -9223372036854775808 ≤ at_) (h1 : at_ ≤ 9223372036854775807) (B : Nat) (w : World) (hr : RB w B A bs) (hl : bs.length ≤ 1073741824)
    (hrm : isW x = true ∧ 0 ≤ at_ ∧ at_ + x ≤ bs.length) (hbig : ¬ leVal ((bs.drop at_.toNat).take x.toNat) < 9223372036854775808) :
    Calls Try.prog 36 #[.slice A bs.length c, .int .i64 at_, .int .i64 x] w fun e w' => e = .returned (.tuple #[.int .i64 (getN bs at_ x), .bool (getK bs at_ x)]) ∧ w = w' := by
  obtain ⟨hw, ha, hle⟩ := hrm
  have hwd : x = 8 ∨ x = 4 ∨ x = 2 ∨ x = 1 := by simp [isW] at hw; omega
  obtain ⟨a, rfl⟩ := Int.eq_ofNat_of_zero_le ha
  obtain ⟨wd, rfl⟩ : ∃ wd : Nat, x = wd := ⟨x.toNat, by omega⟩
  obtain ⟨b, o, rfl, hbB, hc⟩ := hr.all (by omega)
  have HC := Lib.hid hc
  clear hc
  have hseg : ((bs.drop a).take wd).length = wd := by simp; omega
  obtain ⟨seg, hsg⟩ : ∃ seg, seg = (bs.drop a).take wd := ⟨_, rfl⟩
  rw [← hsg] at hseg
  have hsk : ∀ k, k < wd → ∃ u : UInt8, seg[k]? = some u ∧ w.cell? ⟨b, o + (a + k), none⟩ = some (.int .u8 (u.toNat : Int)) := by
    intro k h
    refine ⟨bs[a + k]'(by omega), ?_, HC.out (a + k) (by omega)⟩
    subst hsg
    rw [List.getElem?_take, if_pos h, List.getElem?_drop, List.getElem?_eq_getElem]
  have hbg : ¬ leVal seg < 9223372036854775808 := by rw [hsg]; exact hbig
  clear hbig
  have hg := get_large (bs := bs) (a := a) (k := wd) (by rw [hsg]) hbg
  have HG := Lib.hid hg
  have hlt := leVal_lt seg
  rw [hseg] at hlt
  have h8 : wd = 8 := by
    rcases hwd with h | h | h | h
    · omega
    all_goals
      exfalso
      have hp : (256 : Nat) ^ wd ≤ 256 ^ 4 := Nat.pow_le_pow_right (by omega) (by omega)
      have e4 : (256 : Nat) ^ 4 = 4294967296 := by decide
      omega
  subst h8
  obtain ⟨u, hu, hcu⟩ := hsk 7 (by omega)
  have htop : 128 ≤ u.toNat := by
    have h : ¬ (seg[7]'(by omega)).toNat < 128 := fun h => hbg ((leVal_top seg (by omega)).2 h)
    rw [List.getElem?_eq_getElem (by omega)] at hu
    injection hu with hu
    rw [hu] at h
    omega
  have hab : a + 8 ≤ bs.length := by omega
  clear hg hlt hu hsk hbg hsg hseg hwd hw HC
  go_enter Try.func36, Try.ntmps36
  go_wp2_with fail
  go_ret2
  exact ⟨ret_int_bool HG.out.1.symm HG.out.2.symm, rfl⟩

set_option maxHeartbeats 800000 in
set_option maxRecDepth 100000 in
theorem ref1_get_no (A : Option Addr) (bs : List UInt8) (c : Nat) (at_ x : Int) (h0 : -9223372036854775808 ≤ at_) (h1 : at_ ≤ 9223372036854775807) (w : World) 
    (hrm : ¬ (isW x = true ∧ 0 ≤ at_ ∧ at_ + x ≤ bs.length)) :
    Calls Try.prog 36 #[.slice A bs.length c, .int .i64 at_, .int .i64 x] w fun e w' => e = .returned (.tuple #[.int .i64 (getN bs at_ x), .bool (getK bs at_ x)]) ∧ w = w' := by
  have hg := get_none hrm
  have HG := Lib.hid hg
  clear hg
  by_cases hw : isW x = true
  · have hwd : x = 8 ∨ x = 4 ∨ x = 2 ∨ x = 1 := by simp [isW] at hw; omega
    have hout : at_ < 0 ∨ ((bs.length : Int) < at_ + x ∧ 0 ≤ at_) := by
      by_cases ha : at_ < 0
      · exact .inl ha
      · right
        refine ⟨?_, by omega⟩
        by_cases h : at_ + x ≤ bs.length
        · exact absurd ⟨hw, by omega, h⟩ hrm
        · omega
    clear hrm hw
    rcases hout with hn | ⟨hn, hp⟩
    · have hn' : decide (at_ < 0) = true := by simp [hn]
      rcases hwd with rfl | rfl | rfl | rfl
      all_goals
        go_enter Try.func36, Try.ntmps36
        go_wp2_with fail
        go_ret2
        exact ⟨ret_int_bool HG.out.1.symm HG.out.2.symm, rfl⟩
    · by_cases hfar : (bs.length : Int) < at_
      · rcases hwd with rfl | rfl | rfl | rfl
        all_goals
          go_enter Try.func36, Try.ntmps36
          go_wp2_with fail
          go_ret2
          exact ⟨ret_int_bool HG.out.1.symm HG.out.2.symm, rfl⟩
      · rcases hwd with rfl | rfl | rfl | rfl
        all_goals
          go_enter Try.func36, Try.ntmps36
          go_wp2_with fail
          go_ret2
          exact ⟨ret_int_bool HG.out.1.symm HG.out.2.symm, rfl⟩
  · have a1 : (x != 1) = true := by simp [isW] at hw ⊢; omega
    have a2 : (x != 2) = true := by simp [isW] at hw ⊢; omega
    have a4 : (x != 4) = true := by simp [isW] at hw ⊢; omega
    have a8 : (x != 8) = true := by simp [isW] at hw ⊢; omega
    clear hrm hw
    go_enter Try.func36, Try.ntmps36
    go_wp2_with fail
    go_ret2
    exact ⟨ret_int_bool HG.out.1.symm HG.out.2.symm, rfl⟩

/-- commonsref01.Get: the number at a place, or none. -/
theorem ref1_get (A : Option Addr) (bs : List UInt8) (c : Nat) (at_ x : Int) (h0 : -9223372036854775808 ≤ at_) (h1 : at_ ≤ 9223372036854775807) (B : Nat) (w : World) (hr : RB w B A bs) (hl : bs.length ≤ 1073741824) :
    Calls Try.prog 36 #[.slice A bs.length c, .int .i64 at_, .int .i64 x] w fun e w' => e = .returned (.tuple #[.int .i64 (getN bs at_ x), .bool (getK bs at_ x)]) ∧ w = w' := by
  by_cases hrm : isW x = true ∧ 0 ≤ at_ ∧ at_ + x ≤ bs.length
  · by_cases hbig : leVal ((bs.drop at_.toNat).take x.toNat) < 9223372036854775808
    · exact ref1_get_yes A bs c at_ x h0 h1 B w hr hl hrm hbig
    · exact ref1_get_big A bs c at_ x h0 h1 B w hr hl hrm hbig
  · exact ref1_get_no A bs c at_ x h0 h1 w hrm
end Go.Proofs.Ytnbgkkjhmdfmiaa
