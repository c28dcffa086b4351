/- Records: may they be; numbers of a width. -/
import Derived.Test.YtnbgkkjhmdfmiaaNum
import Derived.Test.YtnbgkkjhmdfmiaaRecPure
import Derived.Deep.Onto
namespace Go.Proofs.Ytnbgkkjhmdfmiaa
open Go.RowKit

theorem OB.lower {w : World} {B base : Nat} {v : Value} {bs : List UInt8} (h : OB w B v bs) (hb : base ≤ B) : OB w base v bs := World.ownsRow.mono h hb

theorem files_in (n a b : Int) (w : World) : Calls Try.prog 37 #[.int .i64 n, .int .i64 a, .int .i64 b] w fun e w' => e = .returned (.bool (decide (a ≤ n ∧ n ≤ b))) ∧ w = w' := by
  go_enter Try.func37, Try.ntmps37
  go_wp2
  all_goals (go_ret; refine ⟨ret_bool ?_, rfl⟩)
  all_goals (rw [Bool.eq_iff_iff]; simp)
  all_goals omega

theorem clog_bit (b : Bool) (w : World) : Calls Try.prog 27 #[.bool b] w fun e w' => e = .returned (.int .i64 (if b then 1 else 0)) ∧ w = w' := by
  cases b
  all_goals
    go_enter Try.func27, Try.ntmps27
    go_wp2
    go_ret
    exact ⟨rfl, rfl⟩

theorem clog_numbers (A : Option Addr) (bs : List UInt8) (c : Nat) (x : Int) (b o lc : Nat) (ns : List Int) (hns : ∀ n ∈ ns, -9223372036854775808 ≤ n ∧ n ≤ 9223372036854775807) (hpos : 0 < ns.length) (hsm : ns.length ≤ 8)
    (w : World) (hr : RB w w.heap.size A bs) (hl : bs.length ≤ 1073741000) (hbw : b < w.heap.size) (hL : ∀ j (h : j < ns.length), w.cell? ⟨b, o + j, none⟩ = some (.int .i64 ns[j])) :
    Calls Try.prog 26 #[.slice A bs.length c, .int .i64 x, .slice (some ⟨b, o, none⟩) ns.length lc] w fun e w' => ∃ v, e = .returned v ∧ OB w' w.heap.size v (putsB bs x ns) ∧ Below w.heap.size w w' := by
  have hlen : ∀ k, k ≤ ns.length → (putsB bs x (ns.take k)).length ≤ 1073741824 := by
    intro k hk
    have := putsB_length bs x (ns.take k)
    rw [List.length_take] at this
    omega
  have HLEN := Lib.hid hlen
  have HL := Lib.hid hL
  have HN := Lib.hid hns
  clear hlen hL hns
  go_enter Try.func26, Try.ntmps26
  go_wp2_with fail
  go_loopw [0, 11] (fun v i wr => ∃ k : Nat, k ≤ ns.length ∧ i = .int .i64 k ∧ (∃ A' c' bk, bk = putsB bs x (ns.take k) ∧ v = .slice A' bk.length c' ∧ RB wr wr.heap.size A' bk) ∧ (0 < k → OB wr w.heap.size v (putsB bs x (ns.take k))) ∧ Below w.heap.size w wr) (fun _ i _ => ns.length - (intOf i).toNat)
  case atStart => exact ⟨0, Nat.zero_le _, rfl, ⟨A, c, bs, rfl, rfl, hr⟩, fun h => absurd h (by omega), Below.refl _ _⟩
  case round =>
    obtain ⟨k, hk, rfl, ⟨A', c', bk, hbk, rfl, hrk⟩, hok, hb⟩ := hrel
    by_cases hlt : k < ns.length
    · have hcell := HL.out k hlt
      rw [← hb.cell (p := ⟨b, o + k, none⟩) hbw] at hcell
      have hn := HN.out ns[k] (List.getElem_mem hlt)
      obtain ⟨n, hn2⟩ : ∃ n, n = ns[k] := ⟨_, rfl⟩
      rw [← hn2] at hcell hn
      obtain ⟨hn0, hn1⟩ := hn
      have hlk := HLEN.out k hk
      rw [← hbk] at hlk
      have HK := Lib.hid hbk
      have HN2 := Lib.hid hn2
      have HOK := Lib.hid hok
      clear hbk hn2 hok hr
      have hz := hb.size
      go_wp2_with fail
      refine (num_put A' bk c' n x hn0 hn1 _ hrk hlk).mono ?_
      rintro e w2 ⟨v2, rfl, hown2, hb2⟩
      have hnext : putB bk n x = putsB bs x (ns.take (k + 1)) := by rw [putsB_take _ _ _ _ hlt, ← HK.out, ← HN2.out]
      go_wp2_with fail
      go_roundw
      case rel =>
        obtain ⟨A2, c2, rfl, -, -, hrd2, -⟩ := hown2.form
        refine ⟨k + 1, by omega, by go_num, ⟨A2, c2, _, hnext.symm ▸ rfl, rfl, hrd2⟩, fun _ => by rw [← hnext]; exact hown2.lower hz, hb.trans (hb2.mono hz)⟩
      case measure => simp [intOf]; omega
    · obtain rfl : k = ns.length := by omega
      go_wp2
      go_ret
      refine ⟨_, rfl, ?_, hb⟩
      have := hok hpos
      rwa [List.take_length] at this

end Go.Proofs.Ytnbgkkjhmdfmiaa
