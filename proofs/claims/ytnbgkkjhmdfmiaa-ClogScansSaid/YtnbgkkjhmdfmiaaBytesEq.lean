/- bytes.Equal. -/
import Derived.Test.YtnbgkkjhmdfmiaaStd
import Derived.Laws.BytesArg
namespace Go.Proofs.Ytnbgkkjhmdfmiaa
open Go.RowKit

theorem strOf_bytes (bs : List UInt8) : strOfNums (bs.map fun u => (u.toNat : Int)) = ⟨bs.toArray⟩ := by
  unfold strOfNums
  congr 1
  simp [Function.comp_def]

/-- string(b). -/
theorem conv_s {A : Option Addr} {n c : Nat} {bs : List UInt8} {w : World} (h : Sl w A n bs) : (convert 33 9 (.slice A n c)).run Try.prog w = .ok (.string ⟨bs.toArray⟩) w := by
  rcases Nat.eq_zero_or_pos n with hn | hn
  · subst hn
    obtain rfl : bs = [] := List.eq_nil_of_length_eq_zero h.1
    rcases A with _ | a
    · exact run_convert_bytes_nil w 33 5 Try.underlying33 Try.underlying5 0 c _ Try.underlying9
    · rw [run_convert_bytes_string w 33 9 5 _ 0 c Try.underlying33 Try.underlying5 Try.underlying9]
      simp [Conv.bytesToString, loadCells]
      rfl
  · obtain ⟨b, o, rfl, hb, hc⟩ := h.all hn
    have := run_convert_bytes_arg (P := Try.prog) w 33 5 Try.underlying33 Try.underlying5 b o n c (bs.map fun u => (u.toNat : Int)) (by simp [h.1])
      (fun i hi => by rw [hc i hi, List.getD_eq_getElem?_getD, List.getElem?_map, List.getElem?_eq_getElem (by rw [h.1]; exact hi)]; rfl) _ Try.underlying9
    rw [strOf_bytes] at this
    exact this

theorem bytes_equal {A A' : Option Addr} {n n' c c' : Nat} {xs ys : List UInt8} {w : World} (hx : Sl w A n xs) (hy : Sl w A' n' ys) :
    Calls Try.prog 47 #[.slice A n c, .slice A' n' c'] w fun e w' => ∃ s, e = .returned (.bool s) ∧ Hid (s = decide (xs = ys)) ∧ w = w' := by
  have h1 := conv_s (c := c) hx
  have h2 := conv_s (c := c') hy
  go_enter Try.func47, Try.ntmps47
  go_wp2
  go_ret
  refine ⟨_, rfl, Lib.hid ?_, rfl⟩
  rw [Bool.eq_iff_iff, beq_iff_eq, decide_eq_true_iff]
end Go.Proofs.Ytnbgkkjhmdfmiaa
