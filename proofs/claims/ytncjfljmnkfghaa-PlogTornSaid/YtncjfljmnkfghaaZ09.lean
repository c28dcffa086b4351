/- The walks of package num (layer 1): what each function answers. The walks of the reference of layer 1. A block of one cell. The walks of package crc (layer 2). No statement of the seat is proved here. -/
import Derived.Test.YtncjfljmnkfghaaZ02
import Derived.Test.YtncjfljmnkfghaaZ08
import Derived.Test.YtncjfljmnkfghaaZ01
namespace Go.Proofs.Ytncjfljmnkfghaa
open Go.RowKit

theorem num_is (x : Int) (w : World) :
    Calls Try.prog 74 #[.int .i64 x] w fun e w' => e = .returned (.bool (isW x)) ∧ w = w' := by
  go_enter Try.func74, Try.ntmps74
  go_wp2
  all_goals (go_ret; refine ⟨ret_bool ?_, rfl⟩)
  all_goals (rw [Bool.eq_iff_iff]; simp [isW])
  all_goals omega

theorem num_fits (n x : Int) (h0 : -9223372036854775808 ≤ n) (h1 : n ≤ 9223372036854775807) (w : World) :
    Calls Try.prog 41 #[.int .i64 n, .int .i64 x] w fun e w' => e = .returned (.bool (fitsB n x)) ∧ w = w' := by
  by_cases hw : x = 1 ∨ x = 2 ∨ x = 4 ∨ x = 8
  · rcases hw with rfl | rfl | rfl | rfl
    all_goals
      go_enter Try.func41, Try.ntmps41
      go_wp2
      all_goals (go_ret; refine ⟨ret_bool ?_, rfl⟩)
    all_goals (rw [Bool.eq_iff_iff]; simp [fitsB])
    all_goals omega
  · have hx : isW x = false := by simp [isW]; omega
    go_enter Try.func41, Try.ntmps41
    go_wp2_with (go_at_call 74; refine (num_is _ _).mono ?_; rintro e w' ⟨rfl, rfl⟩)
    go_ret
    refine ⟨ret_bool ?_, rfl⟩
    simp [fitsB]
    omega

theorem num_room (A : Option Addr) (l c : Nat) (at_ x : Int) (h0 : -9223372036854775808 ≤ at_) (h1 : at_ ≤ 9223372036854775807) (hl : l ≤ 9223372036854775807) (w : World) :
    Calls Try.prog 81 #[.slice A l c, .int .i64 at_, .int .i64 x] w fun e w' => e = .returned (.bool (isW x && decide (0 ≤ at_ ∧ at_ + x ≤ l))) ∧ w = w' := by
  by_cases hw : isW x = true
  · have hb : 1 ≤ x ∧ x ≤ 8 := by simp [isW] at hw; omega
    obtain ⟨hb0, hb1⟩ := hb
    go_enter Try.func81, Try.ntmps81
    go_wp2_with (go_at_call 74; refine (num_is _ _).mono ?_; rintro e w' ⟨rfl, rfl⟩)
    all_goals (go_ret; refine ⟨ret_bool ?_, rfl⟩)
    all_goals (rw [Bool.eq_iff_iff]; simp [hw])
    all_goals omega
  · have hw : isW x = false := by simpa using hw
    go_enter Try.func81, Try.ntmps81
    go_wp2_with (go_at_call 74; refine (num_is _ _).mono ?_; rintro e w' ⟨rfl, rfl⟩)
    go_ret
    refine ⟨ret_bool ?_, rfl⟩
    simp [hw]

/-- slices.Clone at bytes: a copy of the call's own; nil stays nil. -/
theorem clone_bytes (A : Option Addr) (bs : List UInt8) (c : Nat) (w : World) (hr : RB w w.heap.size A bs) (hl : bs.length ≤ 1073741824) :
    Calls Try.prog 73 #[.slice A bs.length c] w fun e w' => ∃ v, e = .returned v ∧ OB w' w.heap.size v bs ∧ Below w.heap.size w w' := by
  rcases A with _ | a
  · have h0 : bs = [] := by
      rcases Nat.eq_zero_or_pos bs.length with h | h
      · exact List.eq_nil_of_length_eq_zero h
      · obtain ⟨_, _, h, _⟩ := hr.2 h; cases h
    subst h0
    have hq := eq_nilB
    go_enter Try.func73, Try.ntmps73
    go_wp2
    go_ret
    exact ⟨_, rfl, World.ownsRow_nil _ _ _ _, Below.refl _ _⟩
  · have hq := eq_nilB
    go_enter Try.func73, Try.ntmps73
    go_wp2_with (at_builtin; refine wpList_appB rfl (.tmp 5) (.tmp 6) rfl w.heap.size _ [] rfl (World.ownsRow_made w #[] 0 (Nat.le_refl _) (by unfold maxLen; omega) rfl) w.heap.size (some a) c bs bs.length rfl rfl (hr.alloc (Nat.le_refl _) _) (by simp; omega) (by simp) ?_; intro v1 w1 hown1 hb1 _ _)
    go_ret
    exact ⟨v1, rfl, by simpa using hown1, ((Below.refl _ _).alloc (Nat.le_refl _) _).trans hb1⟩

/-- num.Put: the number behind the bytes, in memory of the call's own. -/
theorem num_put (A : Option Addr) (bs : List UInt8) (c : Nat) (n x : Int) (h0 : -9223372036854775808 ≤ n) (h1 : n ≤ 9223372036854775807) (w : World) (hr : RB w w.heap.size A bs) (hl : bs.length ≤ 1073741824) :
    Calls Try.prog 40 #[.slice A bs.length c, .int .i64 n, .int .i64 x] w fun e w' => ∃ v, e = .returned v ∧ OB w' w.heap.size v (putB bs n x) ∧ Below w.heap.size w w' := by
  by_cases hf : fitsB n x = true
  · go_enter Try.func40, Try.ntmps40
    go_wp2_with fail
    refine (clone_bytes A bs c w hr hl).mono ?_
    rintro e w1 ⟨v, rfl, hown, hb⟩
    go_wp2_with fail
    refine (num_fits n x h0 h1 _).mono ?_
    rintro e w2 ⟨rfl, rfl⟩
    go_wp2_with fail
    have hx := fits_width hf
    have hn := fits_nat hf
    obtain ⟨wd, rfl⟩ : ∃ wd : Nat, x = wd := ⟨x.toNat, by omega⟩
    have hwd : wd ≤ 8 := by omega
    clear hx
    go_loopw [0, 16] (fun v i wr => ∃ k : Nat, k ≤ wd ∧ i = .int .i64 k ∧ OB wr w.heap.size v (bs ++ leB n.toNat k) ∧ Below w.heap.size w wr) (fun _ i _ => wd - (intOf i).toNat)
    case atStart => exact ⟨0, Nat.zero_le _, rfl, by simpa [leB] using hown, hb⟩
    case round =>
      obtain ⟨k, hk, rfl, hown, hb⟩ := hrel
      by_cases hlt : k < wd
      · have hby := leB_byte n k hn
        have HB := Lib.hid hby
        clear hby
        have hz := hb.size
        go_wp2_with (at_builtin; refine wpList_app1 rfl (.tmp 19) (.tmp 25) rfl w.heap.size _ _ rfl _ rfl hown _ HB.out (by simp [leB_length]; omega) hz ?_; intro v1 w2 hown1 hb1)
        go_roundw
        case rel => exact ⟨k + 1, by omega, by go_num, by rw [leB_snoc, ← List.append_assoc]; exact hown1, hb.trans hb1⟩
        case measure => simp [intOf]; omega
      · obtain rfl : k = wd := by omega
        go_wp2
        go_ret
        exact ⟨_, rfl, by simpa [putB, hf] using hown, hb⟩
  · have hf : fitsB n x = false := by simpa using hf
    go_enter Try.func40, Try.ntmps40
    go_wp2_with fail
    refine (clone_bytes A bs c w hr hl).mono ?_
    rintro e w1 ⟨v, rfl, hown, hb⟩
    go_wp2_with fail
    refine (num_fits n x h0 h1 _).mono ?_
    rintro e w2 ⟨rfl, rfl⟩
    go_wp2_with fail
    go_ret
    exact ⟨_, rfl, by simpa [putB, hf] using hown, hb⟩

/-- num.Get: the number at a place, or none. -/
theorem num_get (A : Option Addr) (bs : List UInt8) (c : Nat) (at_ x : Int) (h0 : -9223372036854775808 ≤ at_) (h1 : at_ ≤ 9223372036854775807) (B : Nat) (w : World) (hr : RB w B A bs) (hl : bs.length ≤ 1073741824) :
    Calls Try.prog 47 #[.slice A bs.length c, .int .i64 at_, .int .i64 x] w fun e w' => e = .returned (.tuple #[.int .i64 (getN bs at_ x), .bool (getK bs at_ x)]) ∧ w = w' := by
  by_cases hrm : isW x = true ∧ 0 ≤ at_ ∧ at_ + x ≤ bs.length
  · have hroom : (isW x && decide (0 ≤ at_ ∧ at_ + x ≤ bs.length)) = true := by simp [hrm.1, hrm.2.1, hrm.2.2]
    obtain ⟨hw, ha, hle⟩ := hrm
    have hwd : x = 8 ∨ x = 4 ∨ x = 2 ∨ x = 1 := by simp [isW] at hw; omega
    obtain ⟨a, rfl⟩ := Int.eq_ofNat_of_zero_le ha
    obtain ⟨wd, rfl⟩ : ∃ wd : Nat, x = wd := ⟨x.toNat, by omega⟩
    have hwd8 : wd ≤ 8 := by omega
    have hwd1 : 1 ≤ wd := by omega
    have hab : a + wd ≤ bs.length := by omega
    obtain ⟨b, o, rfl, hbB, hc⟩ := hr.all (by omega)
    have HC := Lib.hid hc
    clear hc hwd
    go_enter Try.func47, Try.ntmps47
    go_wp2_with fail
    refine (num_room _ _ _ _ _ h0 h1 (by omega) _).mono ?_
    rintro e w2 ⟨rfl, rfl⟩
    rw [hroom]
    go_wp2_with fail
    go_loop [8, 16] (fun v i => ∃ k : Nat, k ≤ wd ∧ i = .int .i64 k ∧ v = .int .u64 (leVal ((bs.drop a).take k) : Nat)) (fun _ i => wd - (intOf i).toNat)
    case atStart => exact ⟨0, Nat.zero_le _, rfl, rfl⟩
    case round =>
      obtain ⟨k, hk, rfl, rfl⟩ := hrel
      by_cases hlt : k < wd
      · have hcell := HC.out (a + k) (by omega)
        obtain ⟨u, hu⟩ : ∃ u, u = bs[a + k]'(by omega) := ⟨_, rfl⟩
        rw [← hu] at hcell
        have HU := Lib.hid hu
        clear hu
        have hlv := leVal_lt ((bs.drop a).take k)
        rw [List.length_take, List.length_drop, Nat.min_eq_left (by omega)] at hlv
        have hor := or_byte _ k u hlv (by omega)
        have hsn : (bs.drop a).take (k + 1) = (bs.drop a).take k ++ [u] := by
          rw [List.take_succ_eq_append_getElem (by simp; omega), HU.out]; simp
        have hle2 : leVal ((bs.drop a).take (k + 1)) = leVal ((bs.drop a).take k) + 256 ^ k * u.toNat := by
          rw [hsn, leVal_snoc, List.length_take, List.length_drop, Nat.min_eq_left (by omega)]
        have HO := Lib.hid hor
        have HL := Lib.hid hle2
        clear hor hsn hle2 hlv
        go_wp2_with fail
        go_round
        case rel => exact ⟨k + 1, by omega, by go_num, by rw [HO.out, HL.out]⟩
        case measure => simp [intOf]; omega
      · obtain rfl : k = wd := by omega
        have hlv := leVal_lt ((bs.drop a).take k)
        rw [List.length_take, List.length_drop, Nat.min_eq_left (by omega)] at hlv
        have hp : (256 : Nat) ^ k ≤ 256 ^ 8 := Nat.pow_le_pow_right (by omega) (by omega)
        have hp8 : (256 : Nat) ^ 8 = 18446744073709551616 := by decide
        have hlv2 : leVal ((bs.drop a).take k) < 18446744073709551616 := by omega
        obtain ⟨m, hm⟩ : ∃ m, m = leVal ((bs.drop a).take k) := ⟨_, rfl⟩
        rw [← hm] at hlv2 ⊢
        have HM := Lib.hid hm
        have HV := Lib.hid hlv2
        clear hm hp hp8 hlv hlv2
        by_cases hbig : m < 9223372036854775808
        · have hg := get_small (bs := bs) (a := a) hw (by omega) HM.out hbig
          have HG := Lib.hid hg
          clear hg
          go_wp2
          go_ret2
          exact ⟨ret_int_bool HG.out.1.symm HG.out.2.symm, rfl⟩
        · have hg := get_large (bs := bs) (a := a) HM.out hbig
          have HG := Lib.hid hg
          clear hg
          go_wp2
          go_ret2
          exact ⟨ret_int_bool HG.out.1.symm HG.out.2.symm, rfl⟩
  · have hg := get_none hrm
    have hroom : (isW x && decide (0 ≤ at_ ∧ at_ + x ≤ bs.length)) = false := by
      rw [Bool.and_eq_false_iff]
      by_cases hx : isW x = true
      · right
        simp only [decide_eq_false_iff_not]
        exact fun h => hrm ⟨hx, h⟩
      · left; simpa using hx
    have HG := Lib.hid hg
    clear hg hrm
    go_enter Try.func47, Try.ntmps47
    go_wp2_with fail
    refine (num_room _ _ _ _ _ h0 h1 (by omega) _).mono ?_
    rintro e w2 ⟨rfl, rfl⟩
    rw [hroom]
    go_wp2_with fail
    go_ret2
    exact ⟨ret_int_bool HG.out.1.symm HG.out.2.symm, rfl⟩

end Go.Proofs.Ytncjfljmnkfghaa

namespace Go.Proofs.Ytncjfljmnkfghaa
open Go.RowKit

theorem ref1_power (n : Nat) (hn : n ≤ 7) (w : World) : Calls Try.prog 79 #[.int .i64 n] w fun e w' => e = .returned (.int .i64 ((256 ^ n : Nat) : Int)) ∧ w = w' := by
  go_enter Try.func79, Try.ntmps79
  go_wp2
  go_loop [3, 4] (fun p i => ∃ k : Nat, k ≤ n ∧ i = .int .i64 k ∧ p = .int .i64 ((256 ^ k : Nat) : Int)) (fun _ i => n - (intOf i).toNat)
  case atStart => exact ⟨0, Nat.zero_le _, rfl, rfl⟩
  case round =>
    obtain ⟨k, hk, rfl, rfl⟩ := hrel
    by_cases hlt : k < n
    · have h7 : (256 : Nat) ^ k ≤ 256 ^ 6 := Nat.pow_le_pow_right (by omega) (by omega)
      have e7 : (256 : Nat) ^ 6 = 281474976710656 := by decide
      obtain ⟨p, hp⟩ : ∃ p : Nat, p = 256 ^ k := ⟨_, rfl⟩
      rw [← hp] at h7 ⊢
      have HP := Lib.hid hp
      clear hp
      rw [e7] at h7
      clear e7
      go_wp2
      go_round
      case rel => exact ⟨k + 1, by omega, by go_num, by rw [Nat.pow_succ, ← HP.out]; go_num⟩
      case measure => simp [intOf]; omega
    · obtain rfl : k = n := by omega
      go_wp2
      go_ret
      exact ⟨rfl, rfl⟩

theorem ref1_power1 (w : World) : Calls Try.prog 79 #[.int .i64 1] w fun e w' => e = .returned (.int .i64 256) ∧ w = w' := ref1_power 1 (by omega) w
theorem ref1_power2 (w : World) : Calls Try.prog 79 #[.int .i64 2] w fun e w' => e = .returned (.int .i64 65536) ∧ w = w' := ref1_power 2 (by omega) w
theorem ref1_power4 (w : World) : Calls Try.prog 79 #[.int .i64 4] w fun e w' => e = .returned (.int .i64 4294967296) ∧ w = w' := ref1_power 4 (by omega) w

theorem ref1_fits (n x : Int) (w : World) :
    Calls Try.prog 44 #[.int .i64 n, .int .i64 x] w fun e w' => e = .returned (.bool (fitsB n x)) ∧ w = w' := by
  by_cases hn : 0 ≤ n
  · by_cases h1 : x = 1 ∨ x = 2 ∨ x = 4
    · rcases h1 with rfl | rfl | rfl
      all_goals
        go_enter Try.func44, Try.ntmps44
        go_wp2_with fail
      · refine (ref1_power1 _).mono ?_; rintro e w' ⟨rfl, rfl⟩; go_wp2; go_ret; exact ⟨ret_bool (by rw [Bool.eq_iff_iff]; simp [fitsB, hn]), rfl⟩
      · refine (ref1_power2 _).mono ?_; rintro e w' ⟨rfl, rfl⟩; go_wp2; go_ret; exact ⟨ret_bool (by rw [Bool.eq_iff_iff]; simp [fitsB, hn]), rfl⟩
      · refine (ref1_power4 _).mono ?_; rintro e w' ⟨rfl, rfl⟩; go_wp2; go_ret; exact ⟨ret_bool (by rw [Bool.eq_iff_iff]; simp [fitsB, hn]), rfl⟩
    · by_cases h8 : x = 8
      · subst h8
        go_enter Try.func44, Try.ntmps44
        go_wp2_with fail
        go_ret
        exact ⟨ret_bool (by rw [Bool.eq_iff_iff]; simp [fitsB, hn]), rfl⟩
      · have a1 : (x != 1) = true := by simp; omega
        have a2 : (x != 2) = true := by simp; omega
        have a4 : (x != 4) = true := by simp; omega
        go_enter Try.func44, Try.ntmps44
        go_wp2_with fail
        go_ret
        exact ⟨ret_bool (by simp [fitsB]; omega), rfl⟩
  · go_enter Try.func44, Try.ntmps44
    go_wp2_with fail
    go_ret
    exact ⟨ret_bool (by simp [fitsB]; omega), rfl⟩

theorem byte_mod (m : Nat) : ((UInt8.ofNat (m % 256)).toNat : Int) = (m : Int) % 256 := by simp

theorem ref1_put (A : Option Addr) (bs : List UInt8) (c : Nat) (n x : Int) (w : World) (hr : RB w w.heap.size A bs) (hl : bs.length ≤ 1073741824) (h1 : n ≤ 9223372036854775807) :
    Calls Try.prog 39 #[.slice A bs.length c, .int .i64 n, .int .i64 x] w fun e w' => ∃ v, e = .returned v ∧ OB w' w.heap.size v (putB bs n x) ∧ Below w.heap.size w w' := by
  have ho := OB.nil w w.heap.size
  go_enter Try.func39, Try.ntmps39
  go_wp2_with (at_builtin; refine wpList_appB rfl (.tmp 10) (.tmp 11) rfl w.heap.size _ [] rfl ho w.heap.size A c bs bs.length rfl rfl hr (by simp; omega) (Nat.le_refl _) ?_; intro v1 w1 hown hb _ _)
  by_cases hf : fitsB n x = true
  · have hx := fits_width hf
    have hn := fits_nat hf
    obtain ⟨wd, rfl⟩ : ∃ wd : Nat, x = wd := ⟨x.toNat, by omega⟩
    obtain ⟨m, rfl⟩ := Int.eq_ofNat_of_zero_le hn
    have hwd : wd ≤ 8 := by omega
    clear hx
    refine (ref1_fits _ _ _).mono ?_
    rintro e w2 ⟨rfl, rfl⟩
    go_wp2_with fail
    go_loopw [1, 7, 9] (fun q v i wr => ∃ k : Nat, k ≤ wd ∧ i = .int .i64 k ∧ q = .int .i64 ((m / 256 ^ k : Nat) : Int) ∧ OB wr w.heap.size v (bs ++ leB m k) ∧ Below w.heap.size w wr) (fun _ _ i _ => wd - (intOf i).toNat)
    case atStart => exact ⟨0, Nat.zero_le _, rfl, by simp, by simpa [leB] using hown, hb⟩
    case round =>
      obtain ⟨k, hk, rfl, rfl, hown, hb⟩ := hrel
      by_cases hlt : k < wd
      · have hq : m / 256 ^ k ≤ m := Nat.div_le_self _ _
        obtain ⟨q, hqe⟩ : ∃ q : Nat, q = m / 256 ^ k := ⟨_, rfl⟩
        rw [← hqe] at hq ⊢
        have HQ := Lib.hid hqe
        clear hqe
        have hz := hb.size
        have hby := byte_mod q
        have HB := Lib.hid hby
        clear hby
        go_wp2_with (at_builtin; refine wpList_app1 rfl (.tmp 24) (.tmp 28) rfl w.heap.size _ _ rfl _ rfl hown _ HB.out (by simp [leB_length]; omega) hz ?_; intro v1 w2 hown1 hb1)
        go_roundw
        case rel => exact ⟨k + 1, by omega, by go_num, by rw [Nat.pow_succ, ← Nat.div_div_eq_div_mul, ← HQ.out]; go_num, by rw [leB_snoc, ← List.append_assoc, ← HQ.out]; exact hown1, hb.trans hb1⟩
        case measure => simp [intOf]; omega
      · obtain rfl : k = wd := by omega
        go_wp2
        go_ret
        exact ⟨_, rfl, by simpa [putB, hf] using hown, hb⟩
  · have hf : fitsB n x = false := by simpa using hf
    refine (ref1_fits _ _ _).mono ?_
    rintro e w2 ⟨rfl, rfl⟩
    rw [hf]
    go_wp2_with fail
    go_ret
    exact ⟨_, rfl, by simpa [putB, hf] using hown, hb⟩

theorem ref1_same (A A' : Option Addr) (xs ys : List UInt8) (c c' B B' : Nat) (w : World) (hx : RB w B A xs) (hy : RB w B' A' ys) (hl : xs.length ≤ 1073741824) (hl' : ys.length ≤ 1073741824) :
    Calls Try.prog 15 #[.slice A xs.length c, .slice A' ys.length c'] w fun e w' => e = .returned (.bool (decide (xs = ys))) ∧ ∃ n, w' = w.drewN n := by
  by_cases hlen : xs.length = ys.length
  · have hle1 : xs.length ≤ ys.length := Nat.le_of_eq hlen
    have hle2 : ys.length ≤ xs.length := Nat.le_of_eq hlen.symm
    clear hlen
    go_enter Try.func15, Try.ntmps15
    go_wp2
    go_loopw [5] (fun i wr => ∃ k n : Nat, k ≤ xs.length ∧ i = .int .i64 k ∧ xs.take k = ys.take k ∧ wr = w.drewN n) (fun i _ => xs.length - (intOf i).toNat)
    case atStart => exact ⟨0, 0, Nat.zero_le _, rfl, rfl, rfl⟩
    case round =>
      obtain ⟨k, n, hk, rfl, ht, rfl⟩ := hrel
      have HT := Lib.hid ht
      clear ht
      by_cases hlt : k < xs.length
      · obtain ⟨b, o, rfl, _, hc⟩ := hx.at_ hlt
        obtain ⟨b', o', rfl, _, hc'⟩ := hy.at_ (k := k) (by omega)
        obtain ⟨u, hu⟩ : ∃ u, u = xs[k]'hlt := ⟨_, rfl⟩
        obtain ⟨u', hu'⟩ : ∃ u, u = ys[k]'(by omega) := ⟨_, rfl⟩
        rw [← hu] at hc
        rw [← hu'] at hc'
        have HU := Lib.hid hu
        have HU' := Lib.hid hu'
        clear hu hu'
        have hky : k < ys.length := by omega
        by_cases he : u = u'
        · have heq : ((u.toNat : Int) != (u'.toNat : Int)) = false := by simp [he]
          have HE := Lib.hid he
          clear he
          go_wp2
          go_quiet (fail)
          go_wp2
          go_roundw
          case rel =>
            refine ⟨k + 1, _, by omega, by go_num, ?_, rfl⟩
            rw [List.take_succ_eq_append_getElem hlt, List.take_succ_eq_append_getElem hky, HT.out, ← HU.out, ← HU'.out, HE.out]
          case measure => simp [intOf]; omega
        · have heq : ((u.toNat : Int) != (u'.toNat : Int)) = true := by
            simp only [bne_iff_ne, ne_eq, Int.ofNat_inj]
            exact fun h => he (UInt8.toNat_inj.1 h)
          have HE := Lib.hid he
          clear he
          go_wp2
          go_quiet (fail)
          go_wp2
          go_ret
          refine ⟨ret_bool ?_, _, World.drewN_drewN ..⟩
          symm
          simp only [decide_eq_false_iff_not]
          rintro rfl
          exact HE.out (HU.out.trans HU'.out.symm)
      · obtain rfl : k = xs.length := by omega
        go_wp2
        go_ret
        refine ⟨ret_bool ?_, _, rfl⟩
        symm
        simp only [decide_eq_true_eq]
        have h := HT.out
        rw [List.take_of_length_le (Nat.le_refl _), List.take_of_length_le hle2] at h
        exact h
  · go_enter Try.func15, Try.ntmps15
    go_wp2
    go_ret
    refine ⟨ret_bool ?_, 0, rfl⟩
    simp
    rintro rfl
    exact hlen rfl

theorem leVal_drop (bs : List UInt8) (k : Nat) (hk : k ≤ bs.length) : leVal bs = leVal (bs.take k) + 256 ^ k * leVal (bs.drop k) := by
  induction k generalizing bs with
  | zero => simp [leVal]
  | succ k ih =>
    match bs, hk with
    | u :: t, hk =>
      rw [List.take_succ_cons, List.drop_succ_cons, leVal, leVal, ih t (by simpa using hk), Nat.pow_succ, Nat.mul_comm (256 ^ k) 256, Nat.mul_add, Nat.mul_assoc]
      omega
theorem leVal_cons (bs : List UInt8) (k : Nat) (hk : k < bs.length) : leVal (bs.drop k) = (bs[k]).toNat + 256 * leVal (bs.drop (k + 1)) := by
  rw [List.drop_eq_getElem_cons hk, leVal]
theorem leVal_part (bs : List UInt8) (k : Nat) : leVal (bs.drop k) ≤ leVal bs := by
  by_cases hk : k ≤ bs.length
  · rw [leVal_drop bs k hk]
    have : leVal (bs.drop k) ≤ 256 ^ k * leVal (bs.drop k) := Nat.le_mul_of_pos_left _ (Nat.pow_pos (by omega))
    omega
  · rw [List.drop_eq_nil_of_le (by omega)]
    simp [leVal]
/-- The top byte of eight tells whether the number is too great. -/
theorem leVal_top (bs : List UInt8) (h : bs.length = 8) : leVal bs < 9223372036854775808 ↔ (bs[7]'(by omega)).toNat < 128 := by
  have h7 := leVal_drop bs 7 (by omega)
  have hc := leVal_cons bs 7 (by omega)
  rw [List.drop_eq_nil_of_le (show bs.length ≤ 7 + 1 by omega), leVal] at hc
  have hl := leVal_lt (bs.take 7)
  rw [List.length_take, Nat.min_eq_left (by omega)] at hl
  have e : (256 : Nat) ^ 7 = 72057594037927936 := by decide
  rw [e] at hl h7
  omega

set_option maxHeartbeats 800000 in
set_option maxRecDepth 100000 in
theorem ref1_get_yes (A : Option Addr) (bs : List UInt8) (c : Nat) (at_ x : Int) (h0 : -9223372036854775808 ≤ at_) (h1 : at_ ≤ 9223372036854775807) (B : Nat) (w : World) (hr : RB w B A bs) (hl : bs.length ≤ 1073741824)
    (hrm : isW x = true ∧ 0 ≤ at_ ∧ at_ + x ≤ bs.length) (hbig : leVal ((bs.drop at_.toNat).take x.toNat) < 9223372036854775808) :
    Calls Try.prog 48 #[.slice A bs.length c, .int .i64 at_, .int .i64 x] w fun e w' => e = .returned (.tuple #[.int .i64 (getN bs at_ x), .bool (getK bs at_ x)]) ∧ w = w' := by
  obtain ⟨hw, ha, hle⟩ := hrm
  have hwd : x = 8 ∨ x = 4 ∨ x = 2 ∨ x = 1 := by simp [isW] at hw; omega
  obtain ⟨a, rfl⟩ := Int.eq_ofNat_of_zero_le ha
  obtain ⟨wd, rfl⟩ : ∃ wd : Nat, x = wd := ⟨x.toNat, by omega⟩
  obtain ⟨b, o, rfl, hbB, hc⟩ := hr.all (by omega)
  have HC := Lib.hid hc
  clear hc
  have hseg : ((bs.drop a).take wd).length = wd := by simp; omega
  obtain ⟨seg, hsg⟩ : ∃ seg, seg = (bs.drop a).take wd := ⟨_, rfl⟩
  rw [← hsg] at hseg
  have hsk : ∀ k, k < wd → ∃ u : UInt8, seg[k]? = some u ∧ w.cell? ⟨b, o + (a + k), none⟩ = some (.int .u8 (u.toNat : Int)) := by
    intro k h
    refine ⟨bs[a + k]'(by omega), ?_, HC.out (a + k) (by omega)⟩
    subst hsg
    rw [List.getElem?_take, if_pos h, List.getElem?_drop, List.getElem?_eq_getElem]
  have hbig : leVal seg < 9223372036854775808 := by rw [hsg]; exact hbig
  have hg := get_small (bs := bs) (a := a) hw (by omega) (by rw [hsg]) hbig
  have HG := Lib.hid hg
  have HSEG := Lib.hid hseg
  have HSK := Lib.hid hsk
  have htop : (wd = 8 ∧ ∃ t : Nat, w.cell? ⟨b, o + (a + 7), none⟩ = some (.int .u8 (t : Int)) ∧ t < 128) ∨ wd = 4 ∨ wd = 2 ∨ wd = 1 := by
    by_cases h8 : wd = 8
    · left
      obtain ⟨u, hu, hcu⟩ := hsk 7 (by omega)
      refine ⟨h8, _, hcu, ?_⟩
      have h := (leVal_top seg (by omega)).1 hbig
      rw [List.getElem?_eq_getElem (by omega)] at hu
      injection hu with hu
      rw [← hu]
      exact h
    · omega
  have hwd8 : wd ≤ 8 := by omega
  have hwd1 : 1 ≤ wd := by omega
  have hab : a + wd ≤ bs.length := by omega
  have HB := Lib.hid hbig
  clear hg hseg hsk hw hwd hsg hle hbig HC
  rcases htop with ⟨rfl, t, ht, ht8⟩ | rfl | rfl | rfl
  all_goals
    go_enter Try.func48, Try.ntmps48
    go_wp2_with fail
    go_loop [8, 9] (fun n i => ∃ j : Nat, j ≤ seg.length ∧ i = .int .i64 ((j : Int) - 1) ∧ n = .int .i64 (leVal (seg.drop j) : Nat)) (fun _ i => (intOf i + 1).toNat)
    case atStart =>
      refine ⟨seg.length, Nat.le_refl _, ?_, ?_⟩
      · rw [HSEG.out]; rfl
      · rw [List.drop_eq_nil_of_le (Nat.le_refl _)]; rfl
    case round =>
      obtain ⟨j, hj, rfl, rfl⟩ := hrel
      cases j with
      | zero =>
        rw [show ((0 : Nat) : Int) - 1 = -1 from rfl, List.drop_zero]
        go_wp2
        go_ret2
        exact ⟨ret_int_bool HG.out.1.symm HG.out.2.symm, rfl⟩
      | succ j =>
        have hjw2 := HSEG.out
        obtain ⟨u, hu, hcu⟩ := HSK.out j (by omega)
        have hjw : j < seg.length := by omega
        have hval : leVal (seg.drop j) = u.toNat + 256 * leVal (seg.drop (j + 1)) := by
          rw [leVal_cons seg j hjw]
          rw [List.getElem?_eq_getElem hjw] at hu
          injection hu with hu
          rw [hu]
        have hpart := leVal_part seg j
        have hsmall := HB.out
        obtain ⟨m, hm⟩ : ∃ m, m = leVal (seg.drop (j + 1)) := ⟨_, rfl⟩
        rw [← hm] at hval ⊢
        have hbound : 256 * m + u.toNat < 9223372036854775808 := by omega
        have HV := Lib.hid hval
        have hidx : a + j < bs.length := by omega
        clear hm hval hpart hsmall hu hjw2
        rw [show ((j + 1 : Nat) : Int) - 1 = (j : Int) by omega]
        go_wp2
        go_round
        case rel => exact ⟨j, by omega, by go_num, by rw [HV.out]; go_num⟩
        case measure => simp [intOf]

set_option maxHeartbeats 800000 in
set_option maxRecDepth 100000 in
theorem ref1_get_big (A : Option Addr) (bs : List UInt8) (c : Nat) (at_ x : Int) (h0 : -9223372036854775808 ≤ at_) (h1 : at_ ≤ 9223372036854775807) (B : Nat) (w : World) (hr : RB w B A bs) (hl : bs.length ≤ 1073741824)
    (hrm : isW x = true ∧ 0 ≤ at_ ∧ at_ + x ≤ bs.length) (hbig : ¬ leVal ((bs.drop at_.toNat).take x.toNat) < 9223372036854775808) :
    Calls Try.prog 48 #[.slice A bs.length c, .int .i64 at_, .int .i64 x] w fun e w' => e = .returned (.tuple #[.int .i64 (getN bs at_ x), .bool (getK bs at_ x)]) ∧ w = w' := by
  obtain ⟨hw, ha, hle⟩ := hrm
  have hwd : x = 8 ∨ x = 4 ∨ x = 2 ∨ x = 1 := by simp [isW] at hw; omega
  obtain ⟨a, rfl⟩ := Int.eq_ofNat_of_zero_le ha
  obtain ⟨wd, rfl⟩ : ∃ wd : Nat, x = wd := ⟨x.toNat, by omega⟩
  obtain ⟨b, o, rfl, hbB, hc⟩ := hr.all (by omega)
  have HC := Lib.hid hc
  clear hc
  have hseg : ((bs.drop a).take wd).length = wd := by simp; omega
  obtain ⟨seg, hsg⟩ : ∃ seg, seg = (bs.drop a).take wd := ⟨_, rfl⟩
  rw [← hsg] at hseg
  have hsk : ∀ k, k < wd → ∃ u : UInt8, seg[k]? = some u ∧ w.cell? ⟨b, o + (a + k), none⟩ = some (.int .u8 (u.toNat : Int)) := by
    intro k h
    refine ⟨bs[a + k]'(by omega), ?_, HC.out (a + k) (by omega)⟩
    subst hsg
    rw [List.getElem?_take, if_pos h, List.getElem?_drop, List.getElem?_eq_getElem]
  have hbg : ¬ leVal seg < 9223372036854775808 := by rw [hsg]; exact hbig
  clear hbig
  have hg := get_large (bs := bs) (a := a) (k := wd) (by rw [hsg]) hbg
  have HG := Lib.hid hg
  have hlt := leVal_lt seg
  rw [hseg] at hlt
  have h8 : wd = 8 := by
    rcases hwd with h | h | h | h
    · omega
    all_goals
      exfalso
      have hp : (256 : Nat) ^ wd ≤ 256 ^ 4 := Nat.pow_le_pow_right (by omega) (by omega)
      have e4 : (256 : Nat) ^ 4 = 4294967296 := by decide
      omega
  subst h8
  obtain ⟨u, hu, hcu⟩ := hsk 7 (by omega)
  have htop : 128 ≤ u.toNat := by
    have h : ¬ (seg[7]'(by omega)).toNat < 128 := fun h => hbg ((leVal_top seg (by omega)).2 h)
    rw [List.getElem?_eq_getElem (by omega)] at hu
    injection hu with hu
    rw [hu] at h
    omega
  have hab : a + 8 ≤ bs.length := by omega
  clear hg hlt hu hsk hbg hsg hseg hwd hw HC
  go_enter Try.func48, Try.ntmps48
  go_wp2_with fail
  go_ret2
  exact ⟨ret_int_bool HG.out.1.symm HG.out.2.symm, rfl⟩

set_option maxHeartbeats 800000 in
set_option maxRecDepth 100000 in
theorem ref1_get_no (A : Option Addr) (bs : List UInt8) (c : Nat) (at_ x : Int) (h0 : -9223372036854775808 ≤ at_) (h1 : at_ ≤ 9223372036854775807) (w : World) 
    (hrm : ¬ (isW x = true ∧ 0 ≤ at_ ∧ at_ + x ≤ bs.length)) :
    Calls Try.prog 48 #[.slice A bs.length c, .int .i64 at_, .int .i64 x] w fun e w' => e = .returned (.tuple #[.int .i64 (getN bs at_ x), .bool (getK bs at_ x)]) ∧ w = w' := by
  have hg := get_none hrm
  have HG := Lib.hid hg
  clear hg
  by_cases hw : isW x = true
  · have hwd : x = 8 ∨ x = 4 ∨ x = 2 ∨ x = 1 := by simp [isW] at hw; omega
    have hout : at_ < 0 ∨ ((bs.length : Int) < at_ + x ∧ 0 ≤ at_) := by
      by_cases ha : at_ < 0
      · exact .inl ha
      · right
        refine ⟨?_, by omega⟩
        by_cases h : at_ + x ≤ bs.length
        · exact absurd ⟨hw, by omega, h⟩ hrm
        · omega
    clear hrm hw
    rcases hout with hn | ⟨hn, hp⟩
    · have hn' : decide (at_ < 0) = true := by simp [hn]
      rcases hwd with rfl | rfl | rfl | rfl
      all_goals
        go_enter Try.func48, Try.ntmps48
        go_wp2_with fail
        go_ret2
        exact ⟨ret_int_bool HG.out.1.symm HG.out.2.symm, rfl⟩
    · by_cases hfar : (bs.length : Int) < at_
      · rcases hwd with rfl | rfl | rfl | rfl
        all_goals
          go_enter Try.func48, Try.ntmps48
          go_wp2_with fail
          go_ret2
          exact ⟨ret_int_bool HG.out.1.symm HG.out.2.symm, rfl⟩
      · rcases hwd with rfl | rfl | rfl | rfl
        all_goals
          go_enter Try.func48, Try.ntmps48
          go_wp2_with fail
          go_ret2
          exact ⟨ret_int_bool HG.out.1.symm HG.out.2.symm, rfl⟩
  · have a1 : (x != 1) = true := by simp [isW] at hw ⊢; omega
    have a2 : (x != 2) = true := by simp [isW] at hw ⊢; omega
    have a4 : (x != 4) = true := by simp [isW] at hw ⊢; omega
    have a8 : (x != 8) = true := by simp [isW] at hw ⊢; omega
    clear hrm hw
    go_enter Try.func48, Try.ntmps48
    go_wp2_with fail
    go_ret2
    exact ⟨ret_int_bool HG.out.1.symm HG.out.2.symm, rfl⟩

/-- commonsref01.Get: the number at a place, or none. -/
theorem ref1_get (A : Option Addr) (bs : List UInt8) (c : Nat) (at_ x : Int) (h0 : -9223372036854775808 ≤ at_) (h1 : at_ ≤ 9223372036854775807) (B : Nat) (w : World) (hr : RB w B A bs) (hl : bs.length ≤ 1073741824) :
    Calls Try.prog 48 #[.slice A bs.length c, .int .i64 at_, .int .i64 x] w fun e w' => e = .returned (.tuple #[.int .i64 (getN bs at_ x), .bool (getK bs at_ x)]) ∧ w = w' := by
  by_cases hrm : isW x = true ∧ 0 ≤ at_ ∧ at_ + x ≤ bs.length
  · by_cases hbig : leVal ((bs.drop at_.toNat).take x.toNat) < 9223372036854775808
    · exact ref1_get_yes A bs c at_ x h0 h1 B w hr hl hrm hbig
    · exact ref1_get_big A bs c at_ x h0 h1 B w hr hl hrm hbig
  · exact ref1_get_no A bs c at_ x h0 h1 w hrm
end Go.Proofs.Ytncjfljmnkfghaa

namespace Go.Proofs.Ytncjfljmnkfghaa
open Go.RowKit

/-- Block g is one cell of type t, that holds v; it is not frozen. -/
def One (w : World) (g : Nat) (t : TypeId) (v : Value) : Prop := w.heap[g]? = some (.cells #[v] t (0, 0))
section
variable {w w' : World} {g : Nat} {t : TypeId} {v u : Value}
theorem One.lt (h : One w g t v) : g < w.heap.size := (Array.getElem?_eq_some_iff.1 h).1
theorem One.cell (h : One w g t v) : w.cell? ⟨g, 0, none⟩ = some v := by
  rw [cell_of_row w g 0 #[v] t (0, 0) h]; rfl
theorem One.frozen (h : One w g t v) : w.frozen? ⟨g, 0, none⟩ = false := frozen_of_row w g 0 #[v] t h
theorem One.new (w : World) (t : TypeId) (v : Value) : One (w.alloc (.cells #[v] t)) w.heap.size t v := heap_alloc_new w _
theorem One.set (h : One w g t v) (u : Value) : One (w.setCell ⟨g, 0, none⟩ u) g t u := by
  have := heap_setCell_same w g 0 #[v] t u h
  simpa [One] using this
theorem One.grow (w : World) (g : Nat) (u : Value) : w.grownBy (w.setCell ⟨g, 0, none⟩ u) (some g) :=
  ⟨rfl, rfl, rfl, by simp, fun k _ hk => heap_setCell_other w ⟨g, 0, none⟩ k u (fun e => hk (by simp [e]))⟩
theorem One.below {B : Nat} (h : One w g t v) (hb : Below B w w') (hg : g < B) : One w' g t v := (hb.block g hg).trans h
theorem One.grown {row : Option Nat} (h : One w g t v) (hb : w.grownBy w' row) (hg : some g ≠ row) : One w' g t v := (hb.block g h.lt hg).trans h
theorem One.drewN (h : One w g t v) (n : Nat) : One (w.drewN n) g t v := h
theorem One.alloc (h : One w g t v) (o : Obj) : One (w.alloc o) g t v := (Below.heap_alloc w o g h.lt).trans h
end
theorem RB.grownBy {w w' : World} {B g : Nat} {A : Option Addr} {bs : List UInt8} (h : RB w B A bs) (hg : w.grownBy w' (some g)) (hB : B ≤ w.heap.size) (hne : ∀ a, A = some a → a.block ≠ g) : RB w' B A bs := by
  refine ⟨h.1, fun hn => ?_⟩
  obtain ⟨b, o, e, hb, hc⟩ := h.2 hn
  refine ⟨b, o, e, hb, fun j u hu => ?_⟩
  rw [← hc j u hu]
  exact World.cell?_of_block (hg.block b (by omega) (fun e2 => hne _ e (by injection e2)))
end Go.Proofs.Ytncjfljmnkfghaa

namespace Go.Proofs.Ytncjfljmnkfghaa
open Go.RowKit

theorem u32_and1 (X : Nat) (h : X < 2 ^ 32) : bits .and .u32 (X : Int) 1 = ((X % 2 : Nat) : Int) := by
  have := u32_and_nat X 1 (by omega) (by omega)
  rw [nat_mask1] at this
  exact this
theorem u32_step_odd (X : Nat) (h : X < 2 ^ 32) (ho : X % 2 = 1) : bits .xor .u32 ((X : Int) / 2) 3988292384 = ((crc1 X : Nat) : Int) := by
  have := u32_xor_nat (X / 2) 3988292384 (by omega) (by omega)
  unfold crc1 crcPoly
  rw [if_pos ho]
  simpa using this
theorem u32_step_even (X : Nat) (ho : ¬ X % 2 = 1) : (X : Int) / 2 = ((crc1 X : Nat) : Int) := by
  unfold crc1
  rw [if_neg ho]
  simp

/-- The frame of 'byte' at its label, in round k. -/
structure ByteJ (g : Nat) (c : UInt8) (x : Nat) (w : World) (a : Act) (w' : World) : Prop where
  out : ∃ (k : Nat) (u5 u6 u7 u8 u9 u10 u11 u12 u13 u14 u15 u16 u17 u18 u19 u20 u21 u22 u23 u24 u25 u26 u27 u28 u29 u30 u31 u32 u33 u34 u35 u36 u37 u38 u39 : Value), a = { tmps := #[.pointer (some ⟨g, 0, none⟩), .int .u8 (c.toNat : Int), undef, undef, .int .i64 k, u5, u6, u7, u8, u9, u10, u11, u12, u13, u14, u15, u16, u17, u18, u19, u20, u21, u22, u23, u24, u25, u26, u27, u28, u29, u30, u31, u32, u33, u34, u35, u36, u37, u38, u39], defers := [] } ∧ k < 8 ∧ One w' g 114 (.int .u32 ((crcI x k : Nat) : Int)) ∧ w.grownBy w' (some g)

set_option maxRecDepth 100000 in
theorem crc_byte (g r : Nat) (c : UInt8) (w : World) (h : One w g 114 (.int .u32 (r : Int))) (hr : r < 2 ^ 32) :
    Calls Try.prog 86 #[.pointer (some ⟨g, 0, none⟩), .int .u8 (c.toNat : Int)] w fun e w' => e = .returned (.tuple #[]) ∧ One w' g 114 (.int .u32 (crcByte r c : Nat)) ∧ w.grownBy w' (some g) := by
  have hc := h.cell
  have hf := h.frozen
  have hcl := c.toNat_lt
  have hx : bits .xor .u32 (r : Int) (c.toNat : Int) = ((r ^^^ c.toNat : Nat) : Int) := u32_xor_nat r c.toNat (by omega) (by omega)
  have hxl : r ^^^ c.toNat < 2 ^ 32 := Nat.xor_lt_two_pow hr (by omega)
  have hwr : IntKind.u32.wrap (c.toNat : Int) = (c.toNat : Int) := by rw [IntKind.wrap_u32]; omega
  have hset := h.set (.int .u32 ((r ^^^ c.toNat : Nat) : Int))
  have hgr := One.grow w g (.int .u32 ((r ^^^ c.toNat : Nat) : Int))
  have hfin : crcByte r c = crcI (r ^^^ c.toNat) 8 := rfl
  rw [hfin]
  obtain ⟨x, hxe⟩ : ∃ x, x = r ^^^ c.toNat := ⟨_, rfl⟩
  rw [← hxe] at hx hxl hset hgr ⊢
  clear hxe hfin
  have HS := Lib.hid hset
  have HG := Lib.hid hgr
  have HX := Lib.hid hxl
  clear hset hgr h hr hxl
  have pass : ∀ (k : Nat) (w1 : World) (X : Nat), X = crcI x k → One w1 g 114 (.int .u32 (X : Int)) → w1.cell? ⟨g, 0, none⟩ = some (.int .u32 (X : Int)) ∧ w1.frozen? ⟨g, 0, none⟩ = false ∧ X < 2 ^ 32 ∧ One (w1.setCell ⟨g, 0, none⟩ (.int .u32 ((crc1 X : Nat) : Int))) g 114 (.int .u32 ((crcI x (k + 1) : Nat) : Int)) := by
    intro k w1 X hX h1
    refine ⟨h1.cell, h1.frozen, ?_, ?_⟩
    · rw [hX]; exact crcI_lt HX.out k
    · rw [crcI, ← hX]; exact h1.set _
  go_enter Try.func86, Try.ntmps86
  go_wp2
  refine wp_scope_jumps 0 (ByteJ g c x w) (fun a' _ => 8 - (intOf (a'.tmps.getD 4 undef)).toNat) rfl ?_ ?_
  · go_wp2
    go_step3
    obtain ⟨w1, hw1⟩ : ∃ w1, w1 = w.setCell ⟨g, 0, none⟩ (.int .u32 (x : Int)) := ⟨_, rfl⟩
    rw [← hw1] at HS HG ⊢
    obtain ⟨hc1, hf1, hXl, hn⟩ := pass 0 w1 x rfl HS.out
    have HG2 := HG.out
    clear hw1 HS HG hx hwr hc hf
    have hand := u32_and1 x hXl
    by_cases ho : x % 2 = 1
    · have hst := u32_step_odd x hXl ho
      rw [ho] at hand
      clear ho
      go_wp2
      go_step3
      exact ⟨rfl, ⟨1, _, _, _, _, _, _, _, _, _, _, _, _, _, _, _, _, _, _, _, _, _, _, _, _, _, _, _, _, _, _, _, _, _, _, _, rfl, by omega, hn, HG2.trans (One.grow _ _ _)⟩⟩
    · have hst := u32_step_even x ho
      have ho2 : x % 2 = 0 := by omega
      rw [ho2] at hand
      clear ho ho2
      go_wp2
      go_step3
      exact ⟨rfl, ⟨1, _, _, _, _, _, _, _, _, _, _, _, _, _, _, _, _, _, _, _, _, _, _, _, _, _, _, _, _, _, _, _, _, _, _, _, rfl, by omega, hn, HG2.trans (One.grow _ _ _)⟩⟩
  · rintro a' w1 ⟨⟨k, u5, u6, u7, u8, u9, u10, u11, u12, u13, u14, u15, u16, u17, u18, u19, u20, u21, u22, u23, u24, u25, u26, u27, u28, u29, u30, u31, u32, u33, u34, u35, u36, u37, u38, u39, rfl, hk, h1, HG2⟩⟩
    obtain ⟨hc1, hf1, hXl, hn⟩ := pass k w1 (crcI x k) rfl h1
    clear h1 HS HG hx hwr hc hf
    obtain ⟨X, hX⟩ : ∃ X, X = crcI x k := ⟨_, rfl⟩
    rw [← hX] at hc1 hXl hn
    clear hX
    have hand := u32_and1 X hXl
    by_cases ho : X % 2 = 1
    · have hst := u32_step_odd X hXl ho
      rw [ho] at hand
      clear ho
      go_wp2
      · go_step3
        refine ⟨rfl, ⟨⟨k + 1, _, _, _, _, _, _, _, _, _, _, _, _, _, _, _, _, _, _, _, _, _, _, _, _, _, _, _, _, _, _, _, _, _, _, _, rfl, by omega, hn, HG2.trans (One.grow _ _ _)⟩⟩, ?_⟩
        simp [intOf]; omega
      · simp only [Exit.jump]
        go_end0
        obtain rfl : k = 7 := by omega
        exact ⟨rfl, hn, HG2.trans (One.grow _ _ _)⟩
    · have hst := u32_step_even X ho
      have ho2 : X % 2 = 0 := by omega
      rw [ho2] at hand
      clear ho ho2
      go_wp2
      · go_step3
        refine ⟨rfl, ⟨⟨k + 1, _, _, _, _, _, _, _, _, _, _, _, _, _, _, _, _, _, _, _, _, _, _, _, _, _, _, _, _, _, _, _, _, _, _, _, rfl, by omega, hn, HG2.trans (One.grow _ _ _)⟩⟩, ?_⟩
        simp [intOf]; omega
      · simp only [Exit.jump]
        go_end0
        obtain rfl : k = 7 := by omega
        exact ⟨rfl, hn, HG2.trans (One.grow _ _ _)⟩

/-- (*Hasher).Add. -/
theorem crc_add (g r : Nat) (A : Option Addr) (bs : List UInt8) (n c : Nat) (hn : n = bs.length) (B : Nat) (w : World) (h : One w g 114 (.int .u32 (r : Int))) (hr : r < 2 ^ 32) (hb : RB w B A bs) (hB : B ≤ w.heap.size) (hne : ∀ a, A = some a → a.block ≠ g) (hl : bs.length ≤ 1073741824) :
    Calls Try.prog 76 #[.pointer (some ⟨g, 0, none⟩), .slice A n c] w fun e w' => e = .returned (.tuple #[]) ∧ One w' g 114 (.int .u32 (crcMore r bs : Nat)) ∧ w.grownBy w' (some g) := by
  subst hn
  have HNE := Lib.hid hne
  have HR := Lib.hid hr
  clear hne hr
  go_enter Try.func76, Try.ntmps76
  go_wp2_with fail
  go_loopw [8] (fun i wr => ∃ k : Nat, k ≤ bs.length ∧ i = .int .i64 k ∧ One wr g 114 (.int .u32 ((crcMore r (bs.take k) : Nat) : Int)) ∧ w.grownBy wr (some g)) (fun i _ => bs.length - (intOf i).toNat)
  case atStart => exact ⟨0, Nat.zero_le _, rfl, by rw [List.take_zero]; exact h, World.grownBy.refl w _⟩
  case round =>
    obtain ⟨k, hk, rfl, hone, hg⟩ := hrel
    by_cases hlt : k < bs.length
    · have hbr := hb.grownBy hg hB HNE.out
      obtain ⟨b, o, rfl, -, hc⟩ := hbr.at_ hlt
      have hcr := crcMore_lt HR.out (bs.take k)
      have hsn : crcByte (crcMore r (bs.take k)) (bs[k]'hlt) = crcMore r (bs.take (k + 1)) := by
        rw [List.take_succ_eq_append_getElem hlt, crcMore_snoc]
      obtain ⟨u, hu⟩ : ∃ u, u = bs[k]'hlt := ⟨_, rfl⟩
      rw [← hu] at hc hsn
      have HS := Lib.hid hsn
      clear hsn hu hb hbr
      go_wp2_with fail
      refine (crc_byte g _ u wr hone hcr).mono ?_
      rintro e w2 ⟨rfl, hone2, hg2⟩
      rw [HS.out] at hone2
      go_wp2_with fail
      go_roundw
      case rel => exact ⟨k + 1, by omega, by go_num, hone2, hg.trans hg2⟩
      case measure => simp [intOf]; omega
    · obtain rfl : k = bs.length := by omega
      rw [List.take_of_length_le (Nat.le_refl _)] at hone
      go_wp2
      go_end0
      exact ⟨rfl, hone, hg⟩

theorem crc_add' (g r : Nat) (A : Option Addr) (bs : List UInt8) (n c : Nat) (hn : n = bs.length) (B : Nat) (w : World) (h : One w g 114 (.int .u32 (r : Int))) (hr : r < 2 ^ 32) (hb : RB w B A bs) (hB : B ≤ w.heap.size) (hne : ∀ a, A = some a → 0 < bs.length → a.block ≠ g) (hl : bs.length ≤ 1073741824) :
    Calls Try.prog 76 #[.pointer (some ⟨g, 0, none⟩), .slice A n c] w fun e w' => e = .returned (.tuple #[]) ∧ One w' g 114 (.int .u32 (crcMore r bs : Nat)) ∧ w.grownBy w' (some g) := by
  by_cases h0 : 0 < bs.length
  · exact crc_add g r A bs n c hn B w h hr hb hB (fun a ha => hne a ha h0) hl
  · have e : bs = [] := List.eq_nil_of_length_eq_zero (by omega)
    subst e
    simp only [List.length_nil] at hn
    subst hn
    go_enter Try.func76, Try.ntmps76
    go_wp2_with fail
    go_loop [8] (fun i => i = .int .i64 0) (fun _ => 0)
    case atStart => rfl
    case round =>
      subst hrel
      go_wp2
      go_end0
      exact ⟨rfl, h, World.grownBy.refl w _⟩

/-- crc.New. -/
theorem crc_new (w : World) :
    Calls Try.prog 75 #[] w fun e w' => e = .returned (.pointer (some ⟨w.heap.size, 0, none⟩)) ∧ One w' w.heap.size 114 (.int .u32 4294967295) ∧ Below w.heap.size w w' ∧ w'.heap.size = w.heap.size + 1 := by
  go_enter Try.func75, Try.ntmps75
  go_wp2
  go_ret
  exact ⟨rfl, One.new w _ _, (Below.refl _ _).alloc (Nat.le_refl _) _, by simp⟩

/-- (*Hasher).Sum. -/
theorem crc_hsum (g r : Nat) (w : World) (h : One w g 114 (.int .u32 (r : Int))) (hr : r < 2 ^ 32) :
    Calls Try.prog 77 #[.pointer (some ⟨g, 0, none⟩)] w fun e w' => e = .returned (.int .u32 (4294967295 - r : Nat)) ∧ w = w' := by
  have hc := h.cell
  go_enter Try.func77, Try.ntmps77
  go_wp2
  go_ret
  refine ⟨ret_int ?_, rfl⟩
  have e : IntKind.u32.max = ((4294967295 : Nat) : Int) := by decide
  rw [e, u32_xor_nat _ _ (by omega) (by omega), Nat.xor_comm, xor_ones hr]

end Go.Proofs.Ytncjfljmnkfghaa
