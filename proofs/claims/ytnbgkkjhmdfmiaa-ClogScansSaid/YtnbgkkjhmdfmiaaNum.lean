/- The walks of package num (layer 1): what each function answers. -/
import Derived.Test.YtnbgkkjhmdfmiaaBase
import Derived.Test.YtnbgkkjhmdfmiaaBits
namespace Go.Proofs.Ytnbgkkjhmdfmiaa
open Go.RowKit

theorem num_is (x : Int) (w : World) :
    Calls Try.prog 48 #[.int .i64 x] w fun e w' => e = .returned (.bool (isW x)) ∧ w = w' := by
  go_enter Try.func48, Try.ntmps48
  go_wp2
  all_goals (go_ret; refine ⟨ret_bool ?_, rfl⟩)
  all_goals (rw [Bool.eq_iff_iff]; simp [isW])
  all_goals omega

theorem num_fits (n x : Int) (h0 : -9223372036854775808 ≤ n) (h1 : n ≤ 9223372036854775807) (w : World) :
    Calls Try.prog 39 #[.int .i64 n, .int .i64 x] w fun e w' => e = .returned (.bool (fitsB n x)) ∧ w = w' := by
  by_cases hw : x = 1 ∨ x = 2 ∨ x = 4 ∨ x = 8
  · rcases hw with rfl | rfl | rfl | rfl
    all_goals
      go_enter Try.func39, Try.ntmps39
      go_wp2
      all_goals (go_ret; refine ⟨ret_bool ?_, rfl⟩)
    all_goals (rw [Bool.eq_iff_iff]; simp [fitsB])
    all_goals omega
  · have hx : isW x = false := by simp [isW]; omega
    go_enter Try.func39, Try.ntmps39
    go_wp2_with (go_at_call 48; refine (num_is _ _).mono ?_; rintro e w' ⟨rfl, rfl⟩)
    go_ret
    refine ⟨ret_bool ?_, rfl⟩
    simp [fitsB]
    omega

theorem num_room (A : Option Addr) (l c : Nat) (at_ x : Int) (h0 : -9223372036854775808 ≤ at_) (h1 : at_ ≤ 9223372036854775807) (hl : l ≤ 9223372036854775807) (w : World) :
    Calls Try.prog 46 #[.slice A l c, .int .i64 at_, .int .i64 x] w fun e w' => e = .returned (.bool (isW x && decide (0 ≤ at_ ∧ at_ + x ≤ l))) ∧ w = w' := by
  by_cases hw : isW x = true
  · have hb : 1 ≤ x ∧ x ≤ 8 := by simp [isW] at hw; omega
    obtain ⟨hb0, hb1⟩ := hb
    go_enter Try.func46, Try.ntmps46
    go_wp2_with (go_at_call 48; refine (num_is _ _).mono ?_; rintro e w' ⟨rfl, rfl⟩)
    all_goals (go_ret; refine ⟨ret_bool ?_, rfl⟩)
    all_goals (rw [Bool.eq_iff_iff]; simp [hw])
    all_goals omega
  · have hw : isW x = false := by simpa using hw
    go_enter Try.func46, Try.ntmps46
    go_wp2_with (go_at_call 48; refine (num_is _ _).mono ?_; rintro e w' ⟨rfl, rfl⟩)
    go_ret
    refine ⟨ret_bool ?_, rfl⟩
    simp [hw]

/-- slices.Clone at bytes: a copy of the call's own; nil stays nil. -/
theorem clone_bytes (A : Option Addr) (bs : List UInt8) (c : Nat) (w : World) (hr : RB w w.heap.size A bs) (hl : bs.length ≤ 1073741824) :
    Calls Try.prog 38 #[.slice A bs.length c] w fun e w' => ∃ v, e = .returned v ∧ OB w' w.heap.size v bs ∧ Below w.heap.size w w' := by
  rcases A with _ | a
  · have h0 : bs = [] := by
      rcases Nat.eq_zero_or_pos bs.length with h | h
      · exact List.eq_nil_of_length_eq_zero h
      · obtain ⟨_, _, h, _⟩ := hr.2 h; cases h
    subst h0
    have hq := eq_nilB
    go_enter Try.func38, Try.ntmps38
    go_wp2
    go_ret
    exact ⟨_, rfl, World.ownsRow_nil _ _ _ _, Below.refl _ _⟩
  · have hq := eq_nilB
    go_enter Try.func38, Try.ntmps38
    go_wp2_with (at_builtin; refine wpList_appB rfl (.tmp 5) (.tmp 6) rfl w.heap.size _ [] rfl (World.ownsRow_made w #[] 0 (Nat.le_refl _) (by unfold maxLen; omega) rfl) w.heap.size (some a) c bs bs.length rfl rfl (hr.alloc (Nat.le_refl _) _) (by simp; omega) (by simp) ?_; intro v1 w1 hown1 hb1 _ _)
    go_ret
    exact ⟨v1, rfl, by simpa using hown1, ((Below.refl _ _).alloc (Nat.le_refl _) _).trans hb1⟩

/-- num.Put: the number behind the bytes, in memory of the call's own. -/
theorem num_put (A : Option Addr) (bs : List UInt8) (c : Nat) (n x : Int) (h0 : -9223372036854775808 ≤ n) (h1 : n ≤ 9223372036854775807) (w : World) (hr : RB w w.heap.size A bs) (hl : bs.length ≤ 1073741824) :
    Calls Try.prog 28 #[.slice A bs.length c, .int .i64 n, .int .i64 x] w fun e w' => ∃ v, e = .returned v ∧ OB w' w.heap.size v (putB bs n x) ∧ Below w.heap.size w w' := by
  by_cases hf : fitsB n x = true
  · go_enter Try.func28, Try.ntmps28
    go_wp2_with fail
    refine (clone_bytes A bs c w hr hl).mono ?_
    rintro e w1 ⟨v, rfl, hown, hb⟩
    go_wp2_with fail
    refine (num_fits n x h0 h1 _).mono ?_
    rintro e w2 ⟨rfl, rfl⟩
    go_wp2_with fail
    have hx := fits_width hf
    have hn := fits_nat hf
    obtain ⟨wd, rfl⟩ : ∃ wd : Nat, x = wd := ⟨x.toNat, by omega⟩
    have hwd : wd ≤ 8 := by omega
    clear hx
    go_loopw [0, 16] (fun v i wr => ∃ k : Nat, k ≤ wd ∧ i = .int .i64 k ∧ OB wr w.heap.size v (bs ++ leB n.toNat k) ∧ Below w.heap.size w wr) (fun _ i _ => wd - (intOf i).toNat)
    case atStart => exact ⟨0, Nat.zero_le _, rfl, by simpa [leB] using hown, hb⟩
    case round =>
      obtain ⟨k, hk, rfl, hown, hb⟩ := hrel
      by_cases hlt : k < wd
      · have hby := leB_byte n k hn
        have HB := Lib.hid hby
        clear hby
        have hz := hb.size
        go_wp2_with (at_builtin; refine wpList_app1 rfl (.tmp 19) (.tmp 25) rfl w.heap.size _ _ rfl _ rfl hown _ HB.out (by simp [leB_length]; omega) hz ?_; intro v1 w2 hown1 hb1)
        go_roundw
        case rel => exact ⟨k + 1, by omega, by go_num, by rw [leB_snoc, ← List.append_assoc]; exact hown1, hb.trans hb1⟩
        case measure => simp [intOf]; omega
      · obtain rfl : k = wd := by omega
        go_wp2
        go_ret
        exact ⟨_, rfl, by simpa [putB, hf] using hown, hb⟩
  · have hf : fitsB n x = false := by simpa using hf
    go_enter Try.func28, Try.ntmps28
    go_wp2_with fail
    refine (clone_bytes A bs c w hr hl).mono ?_
    rintro e w1 ⟨v, rfl, hown, hb⟩
    go_wp2_with fail
    refine (num_fits n x h0 h1 _).mono ?_
    rintro e w2 ⟨rfl, rfl⟩
    go_wp2_with fail
    go_ret
    exact ⟨_, rfl, by simpa [putB, hf] using hown, hb⟩

/-- num.Get: the number at a place, or none. -/
theorem num_get (A : Option Addr) (bs : List UInt8) (c : Nat) (at_ x : Int) (h0 : -9223372036854775808 ≤ at_) (h1 : at_ ≤ 9223372036854775807) (B : Nat) (w : World) (hr : RB w B A bs) (hl : bs.length ≤ 1073741824) :
    Calls Try.prog 34 #[.slice A bs.length c, .int .i64 at_, .int .i64 x] w fun e w' => e = .returned (.tuple #[.int .i64 (getN bs at_ x), .bool (getK bs at_ x)]) ∧ w = w' := by
  by_cases hrm : isW x = true ∧ 0 ≤ at_ ∧ at_ + x ≤ bs.length
  · have hroom : (isW x && decide (0 ≤ at_ ∧ at_ + x ≤ bs.length)) = true := by simp [hrm.1, hrm.2.1, hrm.2.2]
    obtain ⟨hw, ha, hle⟩ := hrm
    have hwd : x = 8 ∨ x = 4 ∨ x = 2 ∨ x = 1 := by simp [isW] at hw; omega
    obtain ⟨a, rfl⟩ := Int.eq_ofNat_of_zero_le ha
    obtain ⟨wd, rfl⟩ : ∃ wd : Nat, x = wd := ⟨x.toNat, by omega⟩
    have hwd8 : wd ≤ 8 := by omega
    have hwd1 : 1 ≤ wd := by omega
    have hab : a + wd ≤ bs.length := by omega
    obtain ⟨b, o, rfl, hbB, hc⟩ := hr.all (by omega)
    have HC := Lib.hid hc
    clear hc hwd
    go_enter Try.func34, Try.ntmps34
    go_wp2_with fail
    refine (num_room _ _ _ _ _ h0 h1 (by omega) _).mono ?_
    rintro e w2 ⟨rfl, rfl⟩
    rw [hroom]
    go_wp2_with fail
    go_loop [8, 16] (fun v i => ∃ k : Nat, k ≤ wd ∧ i = .int .i64 k ∧ v = .int .u64 (leVal ((bs.drop a).take k) : Nat)) (fun _ i => wd - (intOf i).toNat)
    case atStart => exact ⟨0, Nat.zero_le _, rfl, rfl⟩
    case round =>
      obtain ⟨k, hk, rfl, rfl⟩ := hrel
      by_cases hlt : k < wd
      · have hcell := HC.out (a + k) (by omega)
        obtain ⟨u, hu⟩ : ∃ u, u = bs[a + k]'(by omega) := ⟨_, rfl⟩
        rw [← hu] at hcell
        have HU := Lib.hid hu
        clear hu
        have hlv := leVal_lt ((bs.drop a).take k)
        rw [List.length_take, List.length_drop, Nat.min_eq_left (by omega)] at hlv
        have hor := or_byte _ k u hlv (by omega)
        have hsn : (bs.drop a).take (k + 1) = (bs.drop a).take k ++ [u] := by
          rw [List.take_succ_eq_append_getElem (by simp; omega), HU.out]; simp
        have hle2 : leVal ((bs.drop a).take (k + 1)) = leVal ((bs.drop a).take k) + 256 ^ k * u.toNat := by
          rw [hsn, leVal_snoc, List.length_take, List.length_drop, Nat.min_eq_left (by omega)]
        have HO := Lib.hid hor
        have HL := Lib.hid hle2
        clear hor hsn hle2 hlv
        go_wp2_with fail
        go_round
        case rel => exact ⟨k + 1, by omega, by go_num, by rw [HO.out, HL.out]⟩
        case measure => simp [intOf]; omega
      · obtain rfl : k = wd := by omega
        have hlv := leVal_lt ((bs.drop a).take k)
        rw [List.length_take, List.length_drop, Nat.min_eq_left (by omega)] at hlv
        have hp : (256 : Nat) ^ k ≤ 256 ^ 8 := Nat.pow_le_pow_right (by omega) (by omega)
        have hp8 : (256 : Nat) ^ 8 = 18446744073709551616 := by decide
        have hlv2 : leVal ((bs.drop a).take k) < 18446744073709551616 := by omega
        obtain ⟨m, hm⟩ : ∃ m, m = leVal ((bs.drop a).take k) := ⟨_, rfl⟩
        rw [← hm] at hlv2 ⊢
        have HM := Lib.hid hm
        have HV := Lib.hid hlv2
        clear hm hp hp8 hlv hlv2
        by_cases hbig : m < 9223372036854775808
        · have hg := get_small (bs := bs) (a := a) hw (by omega) HM.out hbig
          have HG := Lib.hid hg
          clear hg
          go_wp2
          go_ret2
          exact ⟨ret_int_bool HG.out.1.symm HG.out.2.symm, rfl⟩
        · have hg := get_large (bs := bs) (a := a) HM.out hbig
          have HG := Lib.hid hg
          clear hg
          go_wp2
          go_ret2
          exact ⟨ret_int_bool HG.out.1.symm HG.out.2.symm, rfl⟩
  · have hg := get_none hrm
    have hroom : (isW x && decide (0 ≤ at_ ∧ at_ + x ≤ bs.length)) = false := by
      rw [Bool.and_eq_false_iff]
      by_cases hx : isW x = true
      · right
        simp only [decide_eq_false_iff_not]
        exact fun h => hrm ⟨hx, h⟩
      · left; simpa using hx
    have HG := Lib.hid hg
    clear hg hrm
    go_enter Try.func34, Try.ntmps34
    go_wp2_with fail
    refine (num_room _ _ _ _ _ h0 h1 (by omega) _).mono ?_
    rintro e w2 ⟨rfl, rfl⟩
    rw [hroom]
    go_wp2_with fail
    go_ret2
    exact ⟨ret_int_bool HG.out.1.symm HG.out.2.symm, rfl⟩

end Go.Proofs.Ytnbgkkjhmdfmiaa
