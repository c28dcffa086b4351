/- The walk of crc.Sum. -/
import Derived.Test.YtnbgkkjhmdfmiaaCrc
namespace Go.Proofs.Ytnbgkkjhmdfmiaa
open Go.RowKit

/-- crc.Sum. -/
theorem crc_sum (A : Option Addr) (bs : List UInt8) (n c : Nat) (hn : n = bs.length) (w : World) (hb : RB w w.heap.size A bs) (hl : bs.length ≤ 1073741824) :
    Calls Try.prog 29 #[.slice A n c] w fun e w' => e = .returned (.int .u32 (crcN bs : Nat)) ∧ Below w.heap.size w w' := by
  subst hn
  have hne : ∀ a, A = some a → 0 < bs.length → a.block ≠ w.heap.size := by
    intro a ha h0
    obtain ⟨b, o, e, hlt, -⟩ := hb.all h0
    rw [ha] at e
    injection e with e
    subst e
    show b ≠ _
    omega
  have HNE := Lib.hid hne
  clear hne
  go_enter Try.func29, Try.ntmps29
  go_wp2_with fail
  refine (crc_new w).mono ?_
  rintro e w1 ⟨rfl, hone, hb1, -⟩
  have hz := hb1.size
  have hrd : RB w1 w.heap.size A bs := hb.below hb1
  obtain ⟨r0, hr0⟩ : ∃ r0 : Nat, r0 = 4294967295 := ⟨_, rfl⟩
  have hr0l : r0 < 2 ^ 32 := by omega
  have hone0 : One w1 w.heap.size 73 (.int .u32 (r0 : Int)) := by
    have e : (r0 : Int) = 4294967295 := by omega
    rw [e]; exact hone
  have hfin : 4294967295 - crcMore r0 bs = crcN bs := by rw [hr0, crcN]
  have hmr := crcMore_lt hr0l bs
  have HF := Lib.hid hfin
  clear hfin hr0 hone
  go_wp2_with fail
  refine (crc_add' w.heap.size r0 A bs bs.length c rfl w.heap.size w1 hone0 hr0l hrd hz HNE.out hl).mono ?_
  rintro e w2 ⟨rfl, hone2, hg2⟩
  clear hone0
  go_wp2_with fail
  refine (crc_hsum w.heap.size _ w2 hone2 hmr).mono ?_
  rintro e w3 ⟨rfl, rfl⟩
  rw [HF.out]
  clear hone2 hmr
  go_wp2_with fail
  go_ret
  exact ⟨rfl, hb1.grown hg2 hz (fun k hk => by injection hk with hk; omega)⟩
end Go.Proofs.Ytnbgkkjhmdfmiaa
