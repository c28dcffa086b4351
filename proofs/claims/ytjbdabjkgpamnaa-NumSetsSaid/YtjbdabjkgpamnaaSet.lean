/- num.Set: a number set at its place in a row of the call's own. -/
import Derived.Test.YtjbdabjkgpamnaaNum
namespace Go.Proofs.Ytjbdabjkgpamnaa
open Go.RowKit

/-- Bytes with a number set at a place. -/
def setB (bs : List UInt8) (a : Nat) (ns : List UInt8) : List UInt8 := bs.take a ++ ns ++ bs.drop (a + ns.length)
theorem setB_length (bs : List UInt8) (a : Nat) (ns : List UInt8) (h : a + ns.length ≤ bs.length) : (setB bs a ns).length = bs.length := by
  simp [setB]; omega
theorem setB_nil (bs : List UInt8) (a : Nat) : setB bs a [] = bs := by simp [setB]
theorem setB_snoc (bs : List UInt8) (a : Nat) (ns : List UInt8) (u : UInt8) (h : a + ns.length < bs.length) : (setB bs a ns).set (a + ns.length) u = setB bs a (ns ++ [u]) := by
  have hl : (bs.take a ++ ns).length = a + ns.length := by simp; omega
  unfold setB
  rw [List.set_append_right _ _ (by omega), hl, Nat.sub_self, List.drop_eq_getElem_cons h, List.set_cons_zero, List.length_append, List.append_assoc, List.append_assoc]
  simp
  rfl
theorem bvs_set (bs : List UInt8) (j : Nat) (u : UInt8) : (bvs bs).set j (bv u) = bvs (bs.set j u) := by simp [bvs, List.map_set]

theorem OB.stored {w : World} {base g c : Nat} {bs : List UInt8} {n : Nat} (hn : n = bs.length) (h : OB w base (.slice (some ⟨g, 0, none⟩) n c) bs) (j : Nat) (u : UInt8) :
    OB (w.setCell ⟨g, j, none⟩ (bv u)) base (.slice (some ⟨g, 0, none⟩) n c) (bs.set j u) ∧ w.grownBy (w.setCell ⟨g, j, none⟩ (bv u)) (some g) := by
  subst hn
  have := World.ownsRow.stored h j (bv u)
  rw [bvs_set] at this
  refine ⟨?_, this.2⟩
  unfold OB
  rw [List.length_set]
  exact this.1
theorem OB.cellAt {w : World} {base g c : Nat} {bs : List UInt8} {n : Nat} (hn : n = bs.length) (h : OB w base (.slice (some ⟨g, 0, none⟩) n c) bs) (j : Nat) (hj : j < bs.length) : w.cell? ⟨g, j, none⟩ = some (.int .u8 (bs[j].toNat : Int)) := by
  subst hn
  rw [World.ownsRow.cellAt h j (by omega), bvs_get bs j hj]
  rfl
theorem OB.frozenAt {w : World} {base g c : Nat} {bs : List UInt8} {n : Nat} (hn : n = bs.length) (h : OB w base (.slice (some ⟨g, 0, none⟩) n c) bs) (j : Nat) : w.frozen? ⟨g, j, none⟩ = false := by
  subst hn
  exact World.ownsRow.frozenAt h j

theorem OB.rd {w : World} {base c : Nat} {A : Option Addr} {bs : List UInt8} {n : Nat} (hn : n = bs.length) (h : OB w base (.slice A n c) bs) : RB w w.heap.size A bs := by
  subst hn
  exact Rd.of_own h

theorem num_set_yes (g c a wd : Nat) (bs : List UInt8) (base : Nat) (n : Int) (h0 : -9223372036854775808 ≤ n) (h1 : n ≤ 9223372036854775807) (w : World) (ho : OB w base (.slice (some ⟨g, 0, none⟩) bs.length c) bs) (hl : bs.length ≤ 1073741824)
    (hf : fitsB n wd = true) (hle : a + wd ≤ bs.length) (l : Nat) (hll : l = bs.length) :
    Calls Try.prog 27 #[.slice (some ⟨g, 0, none⟩) l c, .int .i64 a, .int .i64 n, .int .i64 wd] w fun e w' => e = .returned (.bool true) ∧ OB w' base (.slice (some ⟨g, 0, none⟩) l c) (setB bs a (leB n.toNat wd)) ∧ w.grownBy w' (some g) := by
  have hwd := fits_width hf
  have hn := fits_nat hf
  have hw : isW (wd : Int) = true := by simp [isW]; omega
  have hroom : (isW (wd : Int) && decide (0 ≤ (a : Int) ∧ (a : Int) + (wd : Int) ≤ (l : Int))) = true := by simp [hw]; omega
  have hwd8 : wd ≤ 8 := by omega
  rw [← hll] at ho
  have HL := Lib.hid hll
  have hl2 : l ≤ 1073741824 := by omega
  have hle2 : a + wd ≤ l := by omega
  clear hwd hw hll
  go_enter Try.func27, Try.ntmps27
  go_wp2_with fail
  refine (num_fits n _ h0 h1 _).mono ?_
  rintro e w2 ⟨rfl, rfl⟩
  rw [hf]
  go_wp2_with fail
  refine (num_room _ _ _ _ _ (by omega) (by omega) (by omega) _).mono ?_
  rintro e w2 ⟨rfl, rfl⟩
  rw [hroom]
  go_wp2_with fail
  go_loopw [22] (fun i wr => ∃ k : Nat, k ≤ wd ∧ i = .int .i64 k ∧ OB wr base (.slice (some ⟨g, 0, none⟩) l c) (setB bs a (leB n.toNat k)) ∧ w.grownBy wr (some g)) (fun i _ => wd - (intOf i).toNat)
  case atStart => exact ⟨0, Nat.zero_le _, rfl, by simpa [leB, setB_nil] using ho, World.grownBy.refl w _⟩
  case round =>
    obtain ⟨k, hk, rfl, ho, hg⟩ := hrel
    by_cases hlt : k < wd
    · have hlen : (setB bs a (leB n.toNat k)).length = l := by rw [setB_length _ _ _ (by rw [leB_length]; omega), HL.out]
      have hc := OB.cellAt hlen.symm ho (a + k) (by omega)
      have hfz := OB.frozenAt hlen.symm ho (a + k)
      have hby := leB_byte n k hn
      obtain ⟨u, hu⟩ : ∃ u : UInt8, u = UInt8.ofNat (n.toNat / 256 ^ k % 256) := ⟨_, rfl⟩
      rw [← hu] at hby
      have hst := OB.stored hlen.symm ho (a + k) u
      have e : (setB bs a (leB n.toNat k)).set (a + k) u = setB bs a (leB n.toNat (k + 1)) := by
        have := setB_snoc bs a (leB n.toNat k) u (by rw [leB_length]; omega)
        rw [leB_length] at this
        rw [this, leB_snoc, hu]
      rw [e] at hst
      have hcell : bv u = .int .u8 (n / 2 ^ (8 * k) % 256) := by unfold bv; rw [hby]
      rw [hcell] at hst
      have HS := Lib.hid hst
      obtain ⟨old, hold⟩ : ∃ v, v = Value.int .u8 (((setB bs a (leB n.toNat k))[a + k]'(by omega)).toNat : Int) := ⟨_, rfl⟩
      rw [← hold] at hc
      clear hst hcell e hby hu hlen hold ho
      go_wp2_with fail
      go_roundw
      case rel => exact ⟨k + 1, by omega, by go_num, HS.out.1, hg.trans HS.out.2⟩
      case measure => simp [intOf]; omega
    · obtain rfl : k = wd := by omega
      go_wp2
      go_ret
      exact ⟨rfl, ho, hg⟩

theorem num_set_no (A : Option Addr) (l c : Nat) (at_ n x : Int) (h0 : -9223372036854775808 ≤ n) (h1 : n ≤ 9223372036854775807) (ha0 : -9223372036854775808 ≤ at_) (ha1 : at_ ≤ 9223372036854775807) (hl : l ≤ 1073741824) (w : World)
    (hno : ¬ (fitsB n x = true ∧ 0 ≤ at_ ∧ at_ + x ≤ l)) :
    Calls Try.prog 27 #[.slice A l c, .int .i64 at_, .int .i64 n, .int .i64 x] w fun e w' => e = .returned (.bool false) ∧ w = w' := by
  by_cases hf : fitsB n x = true
  · have hx := fits_width hf
    have hroom : (isW x && decide (0 ≤ at_ ∧ at_ + x ≤ (l : Int))) = false := by
      rw [Bool.and_eq_false_iff]
      right
      simp only [decide_eq_false_iff_not]
      exact fun h => hno ⟨hf, h⟩
    clear hno
    go_enter Try.func27, Try.ntmps27
    go_wp2_with fail
    refine (num_fits n _ h0 h1 _).mono ?_
    rintro e w2 ⟨rfl, rfl⟩
    rw [hf]
    go_wp2_with fail
    refine (num_room _ _ _ _ _ (by omega) (by omega) (by omega) _).mono ?_
    rintro e w2 ⟨rfl, rfl⟩
    rw [hroom]
    go_wp2_with fail
    go_ret
    exact ⟨rfl, rfl⟩
  · have hf : fitsB n x = false := by simpa using hf
    clear hno
    go_enter Try.func27, Try.ntmps27
    go_wp2_with fail
    refine (num_fits n _ h0 h1 _).mono ?_
    rintro e w2 ⟨rfl, rfl⟩
    rw [hf]
    go_wp2_with fail
    go_ret
    exact ⟨rfl, rfl⟩
end Go.Proofs.Ytjbdabjkgpamnaa
