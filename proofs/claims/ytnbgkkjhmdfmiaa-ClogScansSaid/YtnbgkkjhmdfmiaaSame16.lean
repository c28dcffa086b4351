/- commonsref16.Same, commonsref03.SameInts: at two rows that hold the same. -/
import Derived.Test.YtnbgkkjhmdfmiaaRecs
namespace Go.Proofs.Ytnbgkkjhmdfmiaa
open Go.RowKit

/-- A slice that reads as records (as ints). -/
def RR (w : World) (A : Option Addr) (n : Nat) (L : List R5) : Prop := L.length = n ∧ Rd w w.heap.size A 5 n (rcs L)
def RI (w : World) (A : Option Addr) (n : Nat) (K : List Int) : Prop := K.length = n ∧ Rd w w.heap.size A 1 n (ics K)
theorem RR.keep {w w' : World} {A : Option Addr} {n : Nat} {L : List R5} (h : RR w A n L) (g : Grow w w') : RR w' A n L := ⟨h.1, (Rd.below h.2 g).more g.size⟩
theorem RI.keep {w w' : World} {A : Option Addr} {n : Nat} {L : List Int} (h : RI w A n L) (g : Grow w w') : RI w' A n L := ⟨h.1, (Rd.below h.2 g).more g.size⟩
theorem OR.rr {w : World} {base : Nat} {v : Value} {L : List R5} (h : OR w base v L) : ∃ A c, v = .slice A L.length c ∧ L.length ≤ c ∧ RR w A L.length L := by
  obtain ⟨A, c, rfl, h1, -, -, -⟩ := own_form h
  exact ⟨A, c, rfl, h1, rfl, Rd.of_own h⟩
theorem OI.ri {w : World} {base : Nat} {v : Value} {L : List Int} (h : OI w base v L) : ∃ A c, v = .slice A L.length c ∧ L.length ≤ c ∧ RI w A L.length L := by
  obtain ⟨A, c, rfl, h1, -, -, -⟩ := own_form h
  exact ⟨A, c, rfl, h1, rfl, Rd.of_own h⟩
theorem RR.at_ {w : World} {A : Option Addr} {n : Nat} {L : List R5} (h : RR w A n L) {i : Nat} (hi : i < n) : ∃ b o r, L[i]? = some r ∧ A = some ⟨b, o, none⟩ ∧ b < w.heap.size ∧
    w.cell? ⟨b, o + i * 5, none⟩ = some (.int .i64 r.call) ∧ w.cell? ⟨b, o + i * 5 + 1, none⟩ = some (.int .i64 r.ino) ∧ w.cell? ⟨b, o + i * 5 + 2, none⟩ = some (.bool r.tr) ∧ w.cell? ⟨b, o + i * 5 + 3, none⟩ = some (.int .i64 r.off) ∧ w.cell? ⟨b, o + i * 5 + 4, none⟩ = some (.string r.dat) := by
  obtain ⟨hn, hl, hr⟩ := h
  obtain ⟨b, o, rfl, hb, hc⟩ := hr (by omega)
  have hi' : i < L.length := by omega
  refine ⟨b, o, L[i], by simp [hi'], rfl, hb, ?_, ?_, ?_, ?_, ?_⟩
  · have := hc (i * 5 + 0) _ ((rcs_get L i 0 hi' (by omega)).trans rfl); simpa [Nat.add_assoc] using this
  · have := hc (i * 5 + 1) _ ((rcs_get L i 1 hi' (by omega)).trans rfl); simpa [Nat.add_assoc] using this
  · have := hc (i * 5 + 2) _ ((rcs_get L i 2 hi' (by omega)).trans rfl); simpa [Nat.add_assoc] using this
  · have := hc (i * 5 + 3) _ ((rcs_get L i 3 hi' (by omega)).trans rfl); simpa [Nat.add_assoc] using this
  · have := hc (i * 5 + 4) _ ((rcs_get L i 4 hi' (by omega)).trans rfl); simpa [Nat.add_assoc] using this
theorem RI.at_ {w : World} {A : Option Addr} {n : Nat} {K : List Int} (h : RI w A n K) {i : Nat} (hi : i < n) : ∃ b o r, K[i]? = some r ∧ A = some ⟨b, o, none⟩ ∧ b < w.heap.size ∧ w.cell? ⟨b, o + i, none⟩ = some (.int .i64 r) := by
  obtain ⟨hn, hl, hr⟩ := h
  obtain ⟨b, o, rfl, hb, hc⟩ := hr (by omega)
  have hi' : i < K.length := by omega
  refine ⟨b, o, K[i], by simp [hi'], rfl, hb, hc i _ (by simp [ics, hi'])⟩

set_option maxHeartbeats 1000000 in
theorem recs_same {A A' : Option Addr} {n c c' : Nat} {L : List R5} {w : World} (hx : RR w A n L) (hy : RR w A' n L) (hn : n ≤ 60000) :
    Calls Try.prog 23 #[.slice A n c, .slice A' n c'] w fun e w' => e = .returned (.bool true) ∧ ∃ k, w' = w.drewN k := by
  have k0 : ((n : Int) != (n : Int)) = false := by simp
  go_enter Try.func23, Try.ntmps23
  go_wp2_with fail
  go_loopw [5] (fun i wr => ∃ k m : Nat, k ≤ n ∧ i = .int .i64 k ∧ wr = w.drewN m) (fun i _ => n - (intOf i).toNat)
  case atStart => exact ⟨0, 0, Nat.zero_le _, rfl, rfl⟩
  case round =>
    obtain ⟨k, m, hk, rfl, rfl⟩ := hrel
    by_cases hlt : k < n
    · obtain ⟨b, o, r, hr, rfl, -, c1, c2, c3, c4, c5⟩ := hx.at_ hlt
      obtain ⟨b', o', r', hr', rfl, -, d1, d2, d3, d4, d5⟩ := hy.at_ hlt
      obtain rfl : r = r' := by rw [hr] at hr'; injection hr'
      clear hr hr'
      go_wp2_with fail
      go_quiet (fail)
      go_wp2_with fail
      go_roundw
      case rel => exact ⟨k + 1, _, by omega, by go_num, rfl⟩
      case measure => simp [intOf]; omega
    · go_wp2_with fail
      go_ret
      exact ⟨rfl, _, rfl⟩

set_option maxHeartbeats 1000000 in
theorem ints_same {A A' : Option Addr} {n c c' : Nat} {L : List Int} {w : World} (hx : RI w A n L) (hy : RI w A' n L) (hn : n ≤ 60000) :
    Calls Try.prog 24 #[.slice A n c, .slice A' n c'] w fun e w' => e = .returned (.bool true) ∧ ∃ k, w' = w.drewN k := by
  have k0 : ((n : Int) != (n : Int)) = false := by simp
  go_enter Try.func24, Try.ntmps24
  go_wp2_with fail
  go_loopw [5] (fun i wr => ∃ k m : Nat, k ≤ n ∧ i = .int .i64 k ∧ wr = w.drewN m) (fun i _ => n - (intOf i).toNat)
  case atStart => exact ⟨0, 0, Nat.zero_le _, rfl, rfl⟩
  case round =>
    obtain ⟨k, m, hk, rfl, rfl⟩ := hrel
    by_cases hlt : k < n
    · obtain ⟨b, o, r, hr, rfl, -, c1⟩ := hx.at_ hlt
      obtain ⟨b', o', r', hr', rfl, -, d1⟩ := hy.at_ hlt
      obtain rfl : r = r' := by rw [hr] at hr'; injection hr'
      clear hr hr'
      have hrr : (r != r) = false := by simp
      go_wp2_with fail
      go_quiet (fail)
      go_wp2_with fail
      go_roundw
      case rel => exact ⟨k + 1, _, by omega, by go_num, rfl⟩
      case measure => simp [intOf]; omega
    · go_wp2_with fail
      go_ret
      exact ⟨rfl, _, rfl⟩
end Go.Proofs.Ytnbgkkjhmdfmiaa
