/- Rows of noughts that a call makes. commonslaw16.log. commonsref16.Same, commonsref03.SameInts: at two rows that hold the same. No statement of the seat is proved here. -/
import Derived.Test.YtnbgkkjhmdfmiaaZ01
import Derived.Test.YtnbgkkjhmdfmiaaZ08
import Derived.Test.YtnbgkkjhmdfmiaaZ06
namespace Go.Proofs.Ytnbgkkjhmdfmiaa
open Go.RowKit

theorem bvs_replicate (n : Nat) : bvs (List.replicate n 0) = List.replicate n (.int .u8 0) := by simp [bvs, bv]

/-- 'make([]byte, n)'. -/
theorem wpList_makeB {w : World} {ops : Array Oper} {rest : List Oper} {o : Oper} {a : Act} {Q : Exit → Act → World → Prop}
    (hg : o.guard = none) (l c : Operand) (hop : o.op = Op.makeSlice 33 l c)
    (base : Nat) (L C : Int) (n : Nat) (hl : a.eval l = .int .i64 L) (hc : a.eval c = .int .i64 C) (hL : L = (n : Int)) (hC : C = (n : Int)) (hn : n ≤ 1073741824) (hb : base ≤ w.heap.size)
    (hK : ∀ w', OB w' base (.slice (some ⟨w.heap.size, 0, none⟩) n n) (List.replicate n 0) → Below base w w' → w.grownBy w' none → wpList Try.prog ops Q rest (a.put o.dst (.slice (some ⟨w.heap.size, 0, none⟩) n n)) w') :
    wpList Try.prog ops Q (o :: rest) a w := by
  obtain ⟨i0, hi, hz, h1, h2⟩ := info_parts byte_info
  refine wpList_make_full w hg l c _ hop base 5 i0 (.int .u8 0) 1 Try.underlying33 hi hz h1 .i64 .i64 L C n hl hc hL hC (by rw [h2]; omega) (by unfold maxLen; omega) hb ?_
  intro w' ho hgr
  refine hK w' ?_ ((Below.refl _ _).grown hgr hb (fun k hk => by cases hk)) hgr
  unfold OB
  rw [List.length_replicate, bvs_replicate]
  have e : (madeCells (Value.int .u8 0).cells (n * 1)).toList = List.replicate n (.int .u8 0) := by
    rw [Nat.mul_one]; exact toList_madeCells_one _ _
  rw [e] at ho
  exact ho

/-- 'make([]byte, 0, n)'. -/
theorem wpList_make0 {w : World} {ops : Array Oper} {rest : List Oper} {o : Oper} {a : Act} {Q : Exit → Act → World → Prop}
    (hg : o.guard = none) (l c : Operand) (hop : o.op = Op.makeSlice 33 l c)
    (base : Nat) (C : Int) (n : Nat) (hl : a.eval l = .int .i64 0) (hc : a.eval c = .int .i64 C) (hC : C = (n : Int)) (hn : n ≤ 1073741824) (hb : base ≤ w.heap.size)
    (hK : ∀ w', OB w' base (.slice (some ⟨w.heap.size, 0, none⟩) 0 n) [] → Below base w w' → w.grownBy w' none → wpList Try.prog ops Q rest (a.put o.dst (.slice (some ⟨w.heap.size, 0, none⟩) 0 n)) w') :
    wpList Try.prog ops Q (o :: rest) a w := by
  obtain ⟨i0, hi, hz, h1, h2⟩ := info_parts byte_info
  refine wpList_make_own w hg l c _ hop base 5 i0 (.int .u8 0) 1 Try.underlying33 hi hz h1 .i64 .i64 C n hl hc hC (by rw [h2]; omega) (by unfold maxLen; omega) hb ?_
  intro w' ho hgr
  exact hK w' ho ((Below.refl _ _).grown hgr hb (fun k hk => by cases hk)) hgr

end Go.Proofs.Ytnbgkkjhmdfmiaa

namespace Go.Proofs.Ytnbgkkjhmdfmiaa
open Go.RowKit

def hd8 (x : Int) : List UInt8 := if fitsB x 8 then leB x.toNat 8 else List.replicate 8 0
def logB (x : Int) (bs : List UInt8) : List UInt8 := (hd8 x ++ bs.take 1016) ++ List.replicate (1016 - (bs.take 1016).length) 0
theorem hd8_length (x : Int) : (hd8 x).length = 8 := by unfold hd8; split <;> simp [leB_length]
theorem logB_length (x : Int) (bs : List UInt8) : (logB x bs).length = 1024 := by simp [logB, hd8_length]; omega

theorem log_w {A : Option Addr} {n c : Nat} {bs : List UInt8} {w : World} (hs : Sl w A n bs) (hc : n ≤ c) (x : Int) (hx : x ≤ 9223372036854775807) :
    Calls Try.prog 20 #[.int .i64 x, .slice A n c] w fun e w' => ∃ A' c', e = .returned (.slice A' 1024 c') ∧ Own w' w.heap.size A' 1024 c' (logB x bs) ∧ Grow w w' := by
  have hr := ref1_put none [] 0 x 8 w RB.nil_ (by simp) hx
  by_cases hf : fitsB x 8 = true
  · have hfin : putB [] x 8 = hd8 x := by rw [putB, if_pos hf, hd8, if_pos hf]; rfl
    rw [hfin] at hr
    clear hfin hf
    by_cases hbig : 1016 < n
    · have hbig' : decide (1016 < (n : Int)) = true := decide_eq_true (by omega)
      have hS : Sl w A 1016 (bs.take 1016) := hs.take (by omega)
      go_enter Try.func20, Try.ntmps20
      go_wp2_with fail
      refine hr.mono ?_
      rintro e w1 ⟨v, rfl, ho, g1⟩
      obtain ⟨A1, c1, rfl, O1⟩ := Own.ofOB ho 8 (hd8_length x) (by omega)
      clear hr ho
      replace hS := hS.keep g1
      have hsz := Below.size g1
      go_wp2_with (first | (at_builtin; refine wpList_appB rfl (.tmp 17) (.tmp 18) rfl w.heap.size _ (hd8 x) rfl O1.2.2 _ A _ (bs.take 1016) 1016 hS.1.symm rfl hS.2.2 (by have := hd8_length x; have := hS.1; omega) hsz ?_; intro v2 w2 q1 q2 q3 q4; clear q3 q4; obtain ⟨A2, c2, rfl, O2⟩ := Own.ofOB q1 (8 + 1016) (by have := hd8_length x; have := hS.1; rw [List.length_append]; omega) (by omega); clear q1) | (at_builtin; refine wpList_appZ rfl (.tmp 20) (.tmp 23) rfl w.heap.size _ (hd8 x ++ bs.take 1016) rfl O2.2.2 (1016 - 1016) _ (by omega) rfl (by have := O2.1; omega) (by have := Below.size q2; omega) ?_; intro v3 w3 q5 q6; obtain ⟨A3, c3, rfl, O3⟩ := Own.ofOB q5 1024 (by have := O2.1; rw [List.length_append, List.length_replicate]; omega) (by omega); clear q5))
      go_ret
      exact ⟨_, _, rfl, by rw [logB, hS.1]; exact O3, (g1.trans q2).trans q6⟩
    · have hbig' : decide (1016 < (n : Int)) = false := decide_eq_false (by omega)
      have hS : Sl w A n (bs.take 1016) := by rw [List.take_of_length_le (by have := hs.1; omega)]; exact hs
      go_enter Try.func20, Try.ntmps20
      go_wp2_with fail
      refine hr.mono ?_
      rintro e w1 ⟨v, rfl, ho, g1⟩
      obtain ⟨A1, c1, rfl, O1⟩ := Own.ofOB ho 8 (hd8_length x) (by omega)
      clear hr ho
      replace hS := hS.keep g1
      have hsz := Below.size g1
      go_wp2_with (first | (at_builtin; refine wpList_appB rfl (.tmp 17) (.tmp 18) rfl w.heap.size _ (hd8 x) rfl O1.2.2 _ A _ (bs.take 1016) n hS.1.symm rfl hS.2.2 (by have := hd8_length x; have := hS.1; omega) hsz ?_; intro v2 w2 q1 q2 q3 q4; clear q3 q4; obtain ⟨A2, c2, rfl, O2⟩ := Own.ofOB q1 (8 + n) (by have := hd8_length x; have := hS.1; rw [List.length_append]; omega) (by omega); clear q1) | (at_builtin; refine wpList_appZ rfl (.tmp 20) (.tmp 23) rfl w.heap.size _ (hd8 x ++ bs.take 1016) rfl O2.2.2 (1016 - n) _ (by omega) rfl (by have := O2.1; omega) (by have := Below.size q2; omega) ?_; intro v3 w3 q5 q6; obtain ⟨A3, c3, rfl, O3⟩ := Own.ofOB q5 1024 (by have := O2.1; rw [List.length_append, List.length_replicate]; omega) (by omega); clear q5))
      go_ret
      exact ⟨_, _, rfl, by rw [logB, hS.1]; exact O3, (g1.trans q2).trans q6⟩
  · have hf' : fitsB x 8 = false := by simpa using hf
    have hp : putB [] x 8 = [] := by rw [putB, if_neg hf]; rfl
    have hfin : hd8 x = List.replicate 8 0 := by rw [hd8, if_neg hf]
    rw [hp] at hr
    replace hfin := Lib.hid hfin
    clear hf hf' hp
    by_cases hbig : 1016 < n
    · have hbig' : decide (1016 < (n : Int)) = true := decide_eq_true (by omega)
      have hS : Sl w A 1016 (bs.take 1016) := hs.take (by omega)
      go_enter Try.func20, Try.ntmps20
      go_wp2_with fail
      refine hr.mono ?_
      rintro e w1 ⟨v, rfl, ho, g1⟩
      obtain ⟨A0, c0, rfl, O0⟩ := Own.ofOB ho 0 rfl (by omega)
      clear hr ho O0
      have hsz0 := Below.size g1
      go_wp2_with (first | (refine wpList_makeB rfl _ _ rfl w.heap.size 8 8 8 rfl rfl rfl rfl (by omega) hsz0 ?_; intro w1b ho2 hb2 _; have O1 : Own w1b w.heap.size _ 8 8 (hd8 x) := ⟨hd8_length x, by omega, by rw [hfin.out]; exact ho2⟩; replace g1 := g1.trans hb2; replace hS := hS.keep g1; have hsz := Below.size g1; clear ho2 hb2) | (at_builtin; refine wpList_appB rfl (.tmp 17) (.tmp 18) rfl w.heap.size _ (hd8 x) rfl O1.2.2 _ A _ (bs.take 1016) 1016 hS.1.symm rfl hS.2.2 (by have := hd8_length x; have := hS.1; omega) hsz ?_; intro v2 w2 q1 q2 q3 q4; clear q3 q4; obtain ⟨A2, c2, rfl, O2⟩ := Own.ofOB q1 (8 + 1016) (by have := hd8_length x; have := hS.1; rw [List.length_append]; omega) (by omega); clear q1) | (at_builtin; refine wpList_appZ rfl (.tmp 20) (.tmp 23) rfl w.heap.size _ (hd8 x ++ bs.take 1016) rfl O2.2.2 (1016 - 1016) _ (by omega) rfl (by have := O2.1; omega) (by have := Below.size q2; omega) ?_; intro v3 w3 q5 q6; obtain ⟨A3, c3, rfl, O3⟩ := Own.ofOB q5 1024 (by have := O2.1; rw [List.length_append, List.length_replicate]; omega) (by omega); clear q5))
      go_ret
      exact ⟨_, _, rfl, by rw [logB, hS.1]; exact O3, (g1.trans q2).trans q6⟩
    · have hbig' : decide (1016 < (n : Int)) = false := decide_eq_false (by omega)
      have hS : Sl w A n (bs.take 1016) := by rw [List.take_of_length_le (by have := hs.1; omega)]; exact hs
      go_enter Try.func20, Try.ntmps20
      go_wp2_with fail
      refine hr.mono ?_
      rintro e w1 ⟨v, rfl, ho, g1⟩
      obtain ⟨A0, c0, rfl, O0⟩ := Own.ofOB ho 0 rfl (by omega)
      clear hr ho O0
      have hsz0 := Below.size g1
      go_wp2_with (first | (refine wpList_makeB rfl _ _ rfl w.heap.size 8 8 8 rfl rfl rfl rfl (by omega) hsz0 ?_; intro w1b ho2 hb2 _; have O1 : Own w1b w.heap.size _ 8 8 (hd8 x) := ⟨hd8_length x, by omega, by rw [hfin.out]; exact ho2⟩; replace g1 := g1.trans hb2; replace hS := hS.keep g1; have hsz := Below.size g1; clear ho2 hb2) | (at_builtin; refine wpList_appB rfl (.tmp 17) (.tmp 18) rfl w.heap.size _ (hd8 x) rfl O1.2.2 _ A _ (bs.take 1016) n hS.1.symm rfl hS.2.2 (by have := hd8_length x; have := hS.1; omega) hsz ?_; intro v2 w2 q1 q2 q3 q4; clear q3 q4; obtain ⟨A2, c2, rfl, O2⟩ := Own.ofOB q1 (8 + n) (by have := hd8_length x; have := hS.1; rw [List.length_append]; omega) (by omega); clear q1) | (at_builtin; refine wpList_appZ rfl (.tmp 20) (.tmp 23) rfl w.heap.size _ (hd8 x ++ bs.take 1016) rfl O2.2.2 (1016 - n) _ (by omega) rfl (by have := O2.1; omega) (by have := Below.size q2; omega) ?_; intro v3 w3 q5 q6; obtain ⟨A3, c3, rfl, O3⟩ := Own.ofOB q5 1024 (by have := O2.1; rw [List.length_append, List.length_replicate]; omega) (by omega); clear q5))
      go_ret
      exact ⟨_, _, rfl, by rw [logB, hS.1]; exact O3, (g1.trans q2).trans q6⟩
end Go.Proofs.Ytnbgkkjhmdfmiaa

namespace Go.Proofs.Ytnbgkkjhmdfmiaa
open Go.RowKit

/-- A slice that reads as records (as ints). -/
def RR (w : World) (A : Option Addr) (n : Nat) (L : List R5) : Prop := L.length = n ∧ Rd w w.heap.size A 5 n (rcs L)
def RI (w : World) (A : Option Addr) (n : Nat) (K : List Int) : Prop := K.length = n ∧ Rd w w.heap.size A 1 n (ics K)
theorem RR.keep {w w' : World} {A : Option Addr} {n : Nat} {L : List R5} (h : RR w A n L) (g : Grow w w') : RR w' A n L := ⟨h.1, (Rd.below h.2 g).more g.size⟩
theorem RI.keep {w w' : World} {A : Option Addr} {n : Nat} {L : List Int} (h : RI w A n L) (g : Grow w w') : RI w' A n L := ⟨h.1, (Rd.below h.2 g).more g.size⟩
theorem OR.rr {w : World} {base : Nat} {v : Value} {L : List R5} (h : OR w base v L) : ∃ A c, v = .slice A L.length c ∧ L.length ≤ c ∧ RR w A L.length L := by
  obtain ⟨A, c, rfl, h1, -, -, -⟩ := own_form h
  exact ⟨A, c, rfl, h1, rfl, Rd.of_own h⟩
theorem OI.ri {w : World} {base : Nat} {v : Value} {L : List Int} (h : OI w base v L) : ∃ A c, v = .slice A L.length c ∧ L.length ≤ c ∧ RI w A L.length L := by
  obtain ⟨A, c, rfl, h1, -, -, -⟩ := own_form h
  exact ⟨A, c, rfl, h1, rfl, Rd.of_own h⟩
theorem RR.at_ {w : World} {A : Option Addr} {n : Nat} {L : List R5} (h : RR w A n L) {i : Nat} (hi : i < n) : ∃ b o r, L[i]? = some r ∧ A = some ⟨b, o, none⟩ ∧ b < w.heap.size ∧
    w.cell? ⟨b, o + i * 5, none⟩ = some (.int .i64 r.call) ∧ w.cell? ⟨b, o + i * 5 + 1, none⟩ = some (.int .i64 r.ino) ∧ w.cell? ⟨b, o + i * 5 + 2, none⟩ = some (.bool r.tr) ∧ w.cell? ⟨b, o + i * 5 + 3, none⟩ = some (.int .i64 r.off) ∧ w.cell? ⟨b, o + i * 5 + 4, none⟩ = some (.string r.dat) := by
  obtain ⟨hn, hl, hr⟩ := h
  obtain ⟨b, o, rfl, hb, hc⟩ := hr (by omega)
  have hi' : i < L.length := by omega
  refine ⟨b, o, L[i], by simp [hi'], rfl, hb, ?_, ?_, ?_, ?_, ?_⟩
  · have := hc (i * 5 + 0) _ ((rcs_get L i 0 hi' (by omega)).trans rfl); simpa [Nat.add_assoc] using this
  · have := hc (i * 5 + 1) _ ((rcs_get L i 1 hi' (by omega)).trans rfl); simpa [Nat.add_assoc] using this
  · have := hc (i * 5 + 2) _ ((rcs_get L i 2 hi' (by omega)).trans rfl); simpa [Nat.add_assoc] using this
  · have := hc (i * 5 + 3) _ ((rcs_get L i 3 hi' (by omega)).trans rfl); simpa [Nat.add_assoc] using this
  · have := hc (i * 5 + 4) _ ((rcs_get L i 4 hi' (by omega)).trans rfl); simpa [Nat.add_assoc] using this
theorem RI.at_ {w : World} {A : Option Addr} {n : Nat} {K : List Int} (h : RI w A n K) {i : Nat} (hi : i < n) : ∃ b o r, K[i]? = some r ∧ A = some ⟨b, o, none⟩ ∧ b < w.heap.size ∧ w.cell? ⟨b, o + i, none⟩ = some (.int .i64 r) := by
  obtain ⟨hn, hl, hr⟩ := h
  obtain ⟨b, o, rfl, hb, hc⟩ := hr (by omega)
  have hi' : i < K.length := by omega
  refine ⟨b, o, K[i], by simp [hi'], rfl, hb, hc i _ (by simp [ics, hi'])⟩

set_option maxHeartbeats 1000000 in
theorem recs_same {A A' : Option Addr} {n c c' : Nat} {L : List R5} {w : World} (hx : RR w A n L) (hy : RR w A' n L) (hn : n ≤ 60000) :
    Calls Try.prog 23 #[.slice A n c, .slice A' n c'] w fun e w' => e = .returned (.bool true) ∧ ∃ k, w' = w.drewN k := by
  have k0 : ((n : Int) != (n : Int)) = false := by simp
  go_enter Try.func23, Try.ntmps23
  go_wp2_with fail
  go_loopw [5] (fun i wr => ∃ k m : Nat, k ≤ n ∧ i = .int .i64 k ∧ wr = w.drewN m) (fun i _ => n - (intOf i).toNat)
  case atStart => exact ⟨0, 0, Nat.zero_le _, rfl, rfl⟩
  case round =>
    obtain ⟨k, m, hk, rfl, rfl⟩ := hrel
    by_cases hlt : k < n
    · obtain ⟨b, o, r, hr, rfl, -, c1, c2, c3, c4, c5⟩ := hx.at_ hlt
      obtain ⟨b', o', r', hr', rfl, -, d1, d2, d3, d4, d5⟩ := hy.at_ hlt
      obtain rfl : r = r' := by rw [hr] at hr'; injection hr'
      clear hr hr'
      go_wp2_with fail
      go_quiet (fail)
      go_wp2_with fail
      go_roundw
      case rel => exact ⟨k + 1, _, by omega, by go_num, rfl⟩
      case measure => simp [intOf]; omega
    · go_wp2_with fail
      go_ret
      exact ⟨rfl, _, rfl⟩

set_option maxHeartbeats 1000000 in
theorem ints_same {A A' : Option Addr} {n c c' : Nat} {L : List Int} {w : World} (hx : RI w A n L) (hy : RI w A' n L) (hn : n ≤ 60000) :
    Calls Try.prog 24 #[.slice A n c, .slice A' n c'] w fun e w' => e = .returned (.bool true) ∧ ∃ k, w' = w.drewN k := by
  have k0 : ((n : Int) != (n : Int)) = false := by simp
  go_enter Try.func24, Try.ntmps24
  go_wp2_with fail
  go_loopw [5] (fun i wr => ∃ k m : Nat, k ≤ n ∧ i = .int .i64 k ∧ wr = w.drewN m) (fun i _ => n - (intOf i).toNat)
  case atStart => exact ⟨0, 0, Nat.zero_le _, rfl, rfl⟩
  case round =>
    obtain ⟨k, m, hk, rfl, rfl⟩ := hrel
    by_cases hlt : k < n
    · obtain ⟨b, o, r, hr, rfl, -, c1⟩ := hx.at_ hlt
      obtain ⟨b', o', r', hr', rfl, -, d1⟩ := hy.at_ hlt
      obtain rfl : r = r' := by rw [hr] at hr'; injection hr'
      clear hr hr'
      have hrr : (r != r) = false := by simp
      go_wp2_with fail
      go_quiet (fail)
      go_wp2_with fail
      go_roundw
      case rel => exact ⟨k + 1, _, by omega, by go_num, rfl⟩
      case measure => simp [intOf]; omega
    · go_wp2_with fail
      go_ret
      exact ⟨rfl, _, rfl⟩
end Go.Proofs.Ytnbgkkjhmdfmiaa
