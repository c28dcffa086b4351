/- The walk of the statement ClogEnds. No statement of the seat is proved here. -/
import Derived.Test.YtnbgkkjhmdfmiaaZ07
namespace Go.Proofs.Ytnbgkkjhmdfmiaa
open Go.RowKit

theorem lives16_any (w : World) : Calls Try.prog 12 #[] w fun e w' => e = .returned (.bool true) ∧ w = w' := by
  have e1 : endB 1 24 = true := by decide
  have e2 : endB (4294967320 / 4294967296) (4294967320 % 4294967296) = true := by decide
  go_enter Try.func12, Try.ntmps12
  go_wp2_with fail
  refine (clog_end_yes 1 24 e1 _).mono ?_
  rintro e w1 ⟨rfl, rfl⟩
  go_wp2_with fail
  refine (clog_split_yes 4294967320 e2 _).mono ?_
  rintro e w1 ⟨rfl, rfl⟩
  go_wp2_with fail
  go_ret
  exact ⟨rfl, rfl⟩

set_option maxHeartbeats 1600000 in
set_option maxRecDepth 100000 in
/-- What the second half of the law finds: an end that is split, or none. -/
theorem law_ClogEnds (p n x : Int) (hx0 : -9223372036854775808 ≤ x) (hx1 : x ≤ 9223372036854775807) (w : World) :
    Calls Try.prog 3 #[.int .i64 p, .int .i64 n, .int .i64 x] w fun e w' => e = .returned (.bool true) ∧ w = w' := by
  have hdm : x / 4294967296 * 4294967296 + x % 4294967296 = x := by omega
  have hneg : ∀ q r, endB q r = true → 0 ≤ q * 4294967296 + r ∧ (q * 4294967296 + r) / 4294967296 = q ∧ (q * 4294967296 + r) % 4294967296 = r := by
    intro q r h
    obtain ⟨h1, h2, h3, h4, h5⟩ := endB_iff.1 h
    omega
  have HD := Lib.hid hdm
  have HN := Lib.hid hneg
  clear hdm hneg
  cases he : endB p n with
  | true =>
    have h1 := HN.out p n he
    obtain ⟨b1, b2, b3, b4, b5⟩ := endB_iff.1 he
    have es : endB ((p * 4294967296 + n) / 4294967296) ((p * 4294967296 + n) % 4294967296) = true := by rw [h1.2.1, h1.2.2]; exact he
    have HE := Lib.hid he
    have HS := Lib.hid es
    have H1 := Lib.hid h1
    clear he es h1 b5
    cases hx : endB (x / 4294967296) (x % 4294967296) with
    | true =>
      have h2 := HN.out _ _ hx
      rw [HD.out] at h2
      have hx2 : 0 ≤ x := h2.1
      have HX := Lib.hid hx
      clear hx h2
      go_enter Try.func3, Try.ntmps3
      go_wp2_with fail
      refine (clog_end_yes p n HE.out _).mono ?_; rintro e w1 ⟨rfl, rfl⟩; go_wp2_with fail
      refine (ref16_end_yes p n HE.out _).mono ?_; rintro e w1 ⟨rfl, rfl⟩; go_wp2_with fail
      refine (clog_split_yes _ HS.out _).mono ?_; rintro e w1 ⟨rfl, rfl⟩; rw [H1.out.2.1, H1.out.2.2]; go_wp2_with fail
      refine (clog_split_yes x HX.out _).mono ?_; rintro e w1 ⟨rfl, rfl⟩; go_wp2_with fail
      refine (ref16_end_yes _ _ HX.out _).mono ?_; rintro e w1 ⟨rfl, rfl⟩; rw [HD.out]; go_wp2_with fail
      refine (lives16_any _).mono ?_; rintro e w1 ⟨rfl, rfl⟩; go_wp2_with fail
      go_ret
      exact ⟨rfl, rfl⟩
    | false =>
      have HX := Lib.hid hx
      clear hx
      by_cases hs : x < 0
      · go_enter Try.func3, Try.ntmps3
        go_wp2_with fail
        refine (clog_end_yes p n HE.out _).mono ?_; rintro e w1 ⟨rfl, rfl⟩; go_wp2_with fail
        refine (ref16_end_yes p n HE.out _).mono ?_; rintro e w1 ⟨rfl, rfl⟩; go_wp2_with fail
        refine (clog_split_yes _ HS.out _).mono ?_; rintro e w1 ⟨rfl, rfl⟩; rw [H1.out.2.1, H1.out.2.2]; go_wp2_with fail
        refine (clog_split_no x HX.out _).mono ?_; rintro e w1 ⟨rfl, rfl⟩; go_wp2_with fail
        refine (lives16_any _).mono ?_; rintro e w1 ⟨rfl, rfl⟩; go_wp2_with fail
        go_ret
        exact ⟨rfl, rfl⟩
      · go_enter Try.func3, Try.ntmps3
        go_wp2_with fail
        refine (clog_end_yes p n HE.out _).mono ?_; rintro e w1 ⟨rfl, rfl⟩; go_wp2_with fail
        refine (ref16_end_yes p n HE.out _).mono ?_; rintro e w1 ⟨rfl, rfl⟩; go_wp2_with fail
        refine (clog_split_yes _ HS.out _).mono ?_; rintro e w1 ⟨rfl, rfl⟩; rw [H1.out.2.1, H1.out.2.2]; go_wp2_with fail
        refine (clog_split_no x HX.out _).mono ?_; rintro e w1 ⟨rfl, rfl⟩; go_wp2_with fail
        refine (ref16_end_no _ _ HX.out _).mono ?_; rintro e w1 ⟨rfl, rfl⟩; go_wp2_with fail
        refine (lives16_any _).mono ?_; rintro e w1 ⟨rfl, rfl⟩; go_wp2_with fail
        go_ret
        exact ⟨rfl, rfl⟩
  | false =>
    have HE := Lib.hid he
    clear he
    cases hx : endB (x / 4294967296) (x % 4294967296) with
    | true =>
      have h2 := HN.out _ _ hx
      rw [HD.out] at h2
      have hx2 : 0 ≤ x := h2.1
      have HX := Lib.hid hx
      clear hx h2
      go_enter Try.func3, Try.ntmps3
      go_wp2_with fail
      refine (clog_end_no p n HE.out _).mono ?_; rintro e w1 ⟨rfl, rfl⟩; go_wp2_with fail
      refine (ref16_end_no p n HE.out _).mono ?_; rintro e w1 ⟨rfl, rfl⟩; go_wp2_with fail
      refine (clog_split_yes x HX.out _).mono ?_; rintro e w1 ⟨rfl, rfl⟩; go_wp2_with fail
      refine (ref16_end_yes _ _ HX.out _).mono ?_; rintro e w1 ⟨rfl, rfl⟩; rw [HD.out]; go_wp2_with fail
      refine (lives16_any _).mono ?_; rintro e w1 ⟨rfl, rfl⟩; go_wp2_with fail
      go_ret
      exact ⟨rfl, rfl⟩
    | false =>
      have HX := Lib.hid hx
      clear hx
      by_cases hs : x < 0
      · go_enter Try.func3, Try.ntmps3
        go_wp2_with fail
        refine (clog_end_no p n HE.out _).mono ?_; rintro e w1 ⟨rfl, rfl⟩; go_wp2_with fail
        refine (ref16_end_no p n HE.out _).mono ?_; rintro e w1 ⟨rfl, rfl⟩; go_wp2_with fail
        refine (clog_split_no x HX.out _).mono ?_; rintro e w1 ⟨rfl, rfl⟩; go_wp2_with fail
        refine (lives16_any _).mono ?_; rintro e w1 ⟨rfl, rfl⟩; go_wp2_with fail
        go_ret
        exact ⟨rfl, rfl⟩
      · go_enter Try.func3, Try.ntmps3
        go_wp2_with fail
        refine (clog_end_no p n HE.out _).mono ?_; rintro e w1 ⟨rfl, rfl⟩; go_wp2_with fail
        refine (ref16_end_no p n HE.out _).mono ?_; rintro e w1 ⟨rfl, rfl⟩; go_wp2_with fail
        refine (clog_split_no x HX.out _).mono ?_; rintro e w1 ⟨rfl, rfl⟩; go_wp2_with fail
        refine (ref16_end_no _ _ HX.out _).mono ?_; rintro e w1 ⟨rfl, rfl⟩; go_wp2_with fail
        refine (lives16_any _).mono ?_; rintro e w1 ⟨rfl, rfl⟩; go_wp2_with fail
        go_ret
        exact ⟨rfl, rfl⟩
end Go.Proofs.Ytnbgkkjhmdfmiaa
