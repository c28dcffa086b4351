/- From a row's arguments to our words: bytes, bounds. few, little: the first patches, cut. commonsref08.SamePatches, SameRecords. commonsref08.Encode. No statement of the seat is proved here. -/
import Derived.Test.YtncjfljmnkfghaaZ02
import Derived.ProofKit
import Derived.OpenShut
import Derived.Test.YtncjfljmnkfghaaZ12
import Derived.Test.YtncjfljmnkfghaaZ11
import Derived.Deep.QuietTactic
import Derived.BigQuiet
import Derived.Deep.RegionHeld3
namespace Go.Proofs.Ytncjfljmnkfghaa
open Go.RowKit

theorem i64_bounds {n : Int} (h : (Lit.int .i64 n).wf = true) : -9223372036854775808 ≤ n ∧ n ≤ 9223372036854775807 := by
  simp [Lit.wf, IntKind.min, IntKind.max, IntKind.signed, IntKind.bits] at h
  exact ⟨by omega, by omega⟩
theorem u32_bounds {n : Int} (h : (Lit.int .u32 n).wf = true) : ∃ X : Nat, n = X ∧ X < 4294967296 := by
  simp [Lit.wf, IntKind.min, IntKind.max, IntKind.signed, IntKind.bits] at h
  exact ⟨n.toNat, by omega, by omega⟩
theorem u8_bounds {n : Int} (h : (Lit.int .u8 n).wf = true) : 0 ≤ n ∧ n < 256 := by
  simp [Lit.wf, IntKind.min, IntKind.max, IntKind.signed, IntKind.bits] at h
  exact ⟨by omega, by omega⟩

/-- A slice of bytes that came in reads as a list of bytes. -/
theorem rb_of_row {w : World} {a : Option Addr} {len cap : Nat} {zs : List Int}
    (h : (a = none ∧ len = 0 ∧ cap = 0 ∧ zs = []) ∨
      ∃ x, a = some x ∧ len ≤ cap ∧ cap ≤ maxLen ∧ zs.length = cap ∧ (∀ i, i < zs.length → w.cell? (x.add i) = some (.int .u8 (zs.getD i 0))) ∧ ∀ n ∈ zs, (Lit.int .u8 n).wf = true) :
    ∃ bs : List UInt8, len = bs.length ∧ RB w w.heap.size a bs ∧ bs.length ≤ cap ∧ cap ≤ maxLen ∧ (a = none → cap = 0) := by
  rcases h with ⟨rfl, rfl, rfl, rfl⟩ | ⟨x, rfl, hl, hm, hz, hcell, hwf⟩
  · exact ⟨[], rfl, RB.nil_, Nat.le_refl _, by unfold maxLen; omega, fun _ => rfl⟩
  · have hlen : ((zs.take len).map fun z => UInt8.ofNat z.toNat).length = len := by simp; omega
    refine ⟨(zs.take len).map fun z => UInt8.ofNat z.toNat, hlen.symm, ⟨by simp [bvs], fun h0 => ?_⟩, by omega, hm, fun h => by cases h⟩
    rw [hlen] at h0
    obtain ⟨b, off, spot⟩ := x
    have hc0 := hcell 0 (by omega)
    have hspot : spot = none := by simpa [Addr.add] using World.cell?_spot hc0
    subst hspot
    have hlt := World.block_lt_of_cell? w _ hc0
    refine ⟨b, off, rfl, by simpa [Addr.add] using hlt, fun j u hu => ?_⟩
    rw [bvs, List.map_map, List.getElem?_map] at hu
    by_cases hj : j < len
    · rw [List.getElem?_take, if_pos hj, List.getElem?_eq_getElem (by omega)] at hu
      simp only [Option.map_some, Option.some.injEq, Function.comp] at hu
      have hc := hcell j (by omega)
      rw [Addr.add_lit, List.getD_eq_getElem?_getD, List.getElem?_eq_getElem (by omega)] at hc
      rw [hc, ← hu]
      have hb := u8_bounds (hwf zs[j] (List.getElem_mem _))
      simp only [Option.getD_some, bv, Option.some.injEq, Value.int.injEq, true_and]
      rw [UInt8.toNat_ofNat', Nat.mod_eq_of_lt (by omega)]
      omega
    · rw [List.getElem?_eq_none (by rw [List.length_take]; omega)] at hu
      cases hu

open Go.ChangeShapes Go.WideShapes Go.ChangeAt
set_option maxRecDepth 8000 in
/-- An argument that is a slice of bytes. -/
theorem open_bytes {H : Type} {enc : TypeId × Value → H} {W : World} {b0 base : Nat} {v : Value} {d : DataW H} {p : List MemPlace} {spare : Nat → Bool} {held : Bool}
    (hv : Value.okWide Try.prog W .any b0 24 v) (h : DataW.Trod enc Try.prog W base spare held 24 v d p) (hs : ∀ b, spare b = true) :
    ∃ (a : Option Addr) (bs : List UInt8) (c : Nat), v = .slice a bs.length c ∧ RB W W.heap.size a bs ∧ bs.length ≤ c ∧ c ≤ maxLen ∧ (a = none → c = 0) := by
  obtain ⟨a, len, cap, rfl⟩ := okWide_slice Try.underlying24 hv
  obtain ⟨fuel, hf⟩ := h
  have hrow : ∃ zs, (a = none ∧ len = 0 ∧ cap = 0 ∧ zs = []) ∨
      ∃ x, a = some x ∧ len ≤ cap ∧ cap ≤ maxLen ∧ zs.length = cap ∧ (∀ i, i < zs.length → W.cell? (x.add i) = some (.int .u8 (zs.getD i 0))) ∧ ∀ n ∈ zs, (Lit.int .u8 n).wf = true := by
    rcases open_ints Try.underlying24 Try.underlying5 (by kernel_rfl) hf with ⟨hcs, _⟩ | ⟨x, l, c, zs, hcs, _, hl, hm, hz, _, hcell, hwz⟩
    · simp [Value.cells] at hcs
      obtain ⟨rfl, rfl, rfl⟩ := hcs
      exact ⟨[], .inl ⟨rfl, rfl, rfl, rfl⟩⟩
    · simp [Value.cells] at hcs
      obtain ⟨rfl, rfl, rfl⟩ := hcs
      exact ⟨zs, .inr ⟨_, rfl, hl, hm, by simpa [hs] using hz, hcell, hwz⟩⟩
  obtain ⟨zs, hz⟩ := hrow
  obtain ⟨bs, rfl, hr, hc, hm, hn⟩ := rb_of_row hz
  exact ⟨a, bs, cap, rfl, hr, hc, hm, hn⟩
theorem u8_nat {n : Int} (h : (Lit.int .u8 n).wf = true) : ∃ X : UInt8, n = (X.toNat : Int) := by
  have := u8_bounds h
  refine ⟨UInt8.ofNat n.toNat, ?_⟩
  rw [UInt8.toNat_ofNat', Nat.mod_eq_of_lt (by omega)]
  omega

end Go.Proofs.Ytncjfljmnkfghaa

namespace Go.Proofs.Ytncjfljmnkfghaa
open Go.RowKit

def cutP (m : Nat) (p : PT) : PT := ⟨p.pos, if m < p.dat.size then p.dat.extract 0 m else p.dat⟩
def fewP (k m : Nat) (L : List PT) : List PT := (L.take k).map (cutP m)
theorem fewP_length (k m : Nat) (L : List PT) : (fewP k m L).length ≤ k := by simp [fewP]; omega
theorem cutP_size {m : Nat} (p : PT) : (cutP m p).dat.size ≤ m := by
  unfold cutP
  by_cases h : m < p.dat.size
  · simp [h, ByteArray.size_extract]; omega
  · simp [h]; omega
theorem fewP_wide {k m : Nat} {L : List PT} (h : ∀ p ∈ L, p.wide) : ∀ p ∈ fewP k m L, p.wide := by
  intro p hp
  obtain ⟨q, hq, rfl⟩ := List.mem_map.1 hp
  exact h q (List.mem_of_mem_take hq)
theorem fewP_few {k m : Nat} {L : List PT} : ∀ p ∈ fewP k m L, p.dat.size ≤ m := by
  intro p hp
  obtain ⟨q, hq, rfl⟩ := List.mem_map.1 hp
  exact cutP_size q
theorem fewP_step {i m : Nat} {L : List PT} {r : PT} (h : L[i]? = some r) : fewP (i + 1) m L = fewP i m L ++ [cutP m r] := by
  rw [fewP, List.take_add_one, h]; simp [fewP]
theorem fewP_end {i k m n : Nat} {L : List PT} (hn : L.length = n) (hi : i ≤ n) (hk : i ≤ k) (h : ¬ (i < n ∧ i < k)) : fewP i m L = fewP k m L := by
  unfold fewP
  congr 1
  rcases Nat.lt_or_ge i k with q | q
  · rw [List.take_of_length_le (by omega), List.take_of_length_le (by omega)]
  · rw [show i = k by omega]
/-- A slice that reads as patches, of any length. -/
def RQ (w : World) (A : Option Addr) (n : Nat) (L : List PT) : Prop := L.length = n ∧ Rd w w.heap.size A 2 n (pcs L)
theorem RP.rq {w : World} {A : Option Addr} {n : Nat} {L : List PT} (h : RP w A n L) : RQ w A n L := ⟨h.1, h.2.2⟩
theorem RQ.keep {w w' : World} {A : Option Addr} {n : Nat} {L : List PT} (h : RQ w A n L) (g : Grow w w') : RQ w' A n L := ⟨h.1, (Rd.below h.2 g).more g.size⟩
theorem RQ.at_ {w : World} {A : Option Addr} {n : Nat} {L : List PT} (h : RQ w A n L) {i : Nat} (hi : i < n) : ∃ b o r, L[i]? = some r ∧ A = some ⟨b, o, none⟩ ∧ b < w.heap.size ∧ w.cell? ⟨b, o + i * 2, none⟩ = some (.int .i64 r.pos) ∧ w.cell? ⟨b, o + i * 2 + 1, none⟩ = some (.string r.dat) := by
  obtain ⟨hn, hl, hr⟩ := h
  obtain ⟨b, o, rfl, hb, hc⟩ := hr (by omega)
  have hi' : i < L.length := by omega
  refine ⟨b, o, L[i], by simp [hi'], rfl, hb, ?_, ?_⟩
  · have := hc (i * 2 + 0) _ ((pcs_get L i 0 hi' (by omega)).trans rfl); simpa [Nat.add_assoc] using this
  · have := hc (i * 2 + 1) _ ((pcs_get L i 1 hi' (by omega)).trans rfl); simpa [Nat.add_assoc] using this
def FewInv (w wr : World) (k m : Nat) (L : List PT) (v t : Value) : Prop := ∃ i : Nat, t = .int .i64 (i : Int) ∧ i ≤ L.length ∧ i ≤ k ∧ OP wr w.heap.size v (fewP i m L) ∧ Grow w wr
theorem measF {M k : Nat} (h : k < M) : M - (intOf (.int .i64 ((k : Int) + 1))).toNat < M - (intOf (.int .i64 (k : Int))).toNat := by simp [intOf]; omega
theorem measFW {M k : Nat} (h : k < M) (e : wrap64 ((k : Int) + 1) = (k : Int) + 1) : M - (intOf (.int .i64 (wrap64 ((k : Int) + 1)))).toNat < M - (intOf (.int .i64 (k : Int))).toNat := by rw [e]; exact measF h

set_option maxHeartbeats 4000000 in
set_option maxRecDepth 8000 in
theorem few_c {w : World} {A : Option Addr} {n c : Nat} {L : List PT} (hr : RQ w A n L) :
    Calls Try.prog 12 #[.slice A n c] w fun e w' => ∃ v, e = .returned v ∧ OP w' w.heap.size v (fewP 70 300 L) ∧ Grow w w' := by
  have HR := Lib.hid hr
  have HN := Lib.hid hr.1
  clear hr
  go_enter Try.func12, Try.ntmps12
  go_wp2_with fail
  go_loopw [3, 4] (fun v t wr => FewInv w wr 70 300 L v t) (fun _ t _ => n - (intOf t).toNat)
  case atStart => exact ⟨0, by simp, Nat.zero_le _, Nat.zero_le _, OP.nil _ _, Grow.refl _⟩
  case round =>
    obtain ⟨i, rfl, hi, hik0, hop, hg⟩ := hrel
    have HG := Lib.hid hg
    have HO := Lib.hid hop
    have hin : i ≤ n := by have := HN.out; omega
    have HFL := Lib.hid (show (fewP i 300 L).length ≤ i from fewP_length _ _ _)
    clear hg hi hop
    by_cases hlt : i < n ∧ i < 70
    · obtain ⟨b, o, r, hrk, rfl, hb, d0, d1⟩ := HR.out.at_ hlt.1
      replace d0 := HG.out.cell d0
      replace d1 := HG.out.cell d1
      have HST := Lib.hid (fewP_step (m := 300) hrk)
      have y1 : decide (i < n) = true := decide_eq_true hlt.1
      have y2 : decide ((i : Int) < (n : Int)) = true := decide_eq_true (by omega)
      have y3 : decide (i < 70) = true := decide_eq_true hlt.2
      have y4 : decide ((i : Int) < 70) = true := decide_eq_true (by omega)
      have hin1 := hlt.1
      have hik := hlt.2
      have hbz : b ≠ wr.heap.size := by have := HG.out.size; omega
      have hbl : b < wr.heap.size := by have := HG.out.size; omega
      have HSZ := Lib.hid HG.out.size
      clear hrk
      by_cases hs : 300 < r.dat.size
      · have s1 : decide (300 < r.dat.size) = true := decide_eq_true hs
        have s2 : decide (((300 : Int)) < (r.dat.size : Int)) = true := decide_eq_true (by omega)
        have hcut : cutP 300 r = ⟨r.pos, r.dat.extract 0 300⟩ := by unfold cutP; rw [if_pos hs]
        rw [hcut] at HST
        have hs' : 300 ≤ r.dat.size := by omega
        clear hcut hs
        go_wp2_with (at_builtin; go_loud (refine wpList_appP1 rfl (.tmp 28) (.tmp 30) rfl w.heap.size _ (fewP i 300 L) rfl ⟨r.pos, r.dat.extract 0 300⟩ (by first | rfl | (show Value.slice (some ⟨wr.heap.size + 1, 0, none⟩) 1 1 = _; simp)) (HO.out.alloc _) (by have := HFL.out; omega) (by have := HSZ.out; first | omega | (simp; omega)) ?_; intro v2 w2 q1 q2; replace q2 : Below w.heap.size wr w2 := ((Below.refl _ _).alloc HSZ.out _).trans q2))
        have X : FewInv w w2 70 300 L v2 (.int .i64 ((i : Int) + 1)) := ⟨i + 1, by simp, by have := HN.out; omega, by omega, by rw [HST.out]; exact q1, HG.out.low (q2.mono (Nat.le_refl _))⟩
        have HX := Lib.hid X
        clear q1 q2 X
        go_roundw
        have e5 : wrap64 ((i : Int) + 1) = (i : Int) + 1 := IntWalk.wrap64_in _ (by omega)
        case rel => (try rw [e5]); first | exact HX.out | ((repeat apply Exists.intro); exact HX.out) | ((repeat apply Exists.intro); refine ⟨HX.out, ?_⟩; first | rfl | simp [y1, y2, y3, y4])
        case measure => (have e5 : wrap64 ((i : Int) + 1) = (i : Int) + 1 := IntWalk.wrap64_in _ (by omega)); first | exact measF hlt.1 | exact measFW hlt.1 e5
      · have s1 : decide (300 < r.dat.size) = false := decide_eq_false hs
        have s2 : decide (((300 : Int)) < (r.dat.size : Int)) = false := decide_eq_false (by omega)
        have hcut : cutP 300 r = r := by unfold cutP; rw [if_neg hs]
        rw [hcut] at HST
        clear hcut hs
        go_wp2_with (at_builtin; go_loud (refine wpList_appP1 rfl (.tmp 28) (.tmp 30) rfl w.heap.size _ (fewP i 300 L) rfl r (by first | rfl | (show Value.slice (some ⟨wr.heap.size + 1, 0, none⟩) 1 1 = _; simp)) (HO.out.alloc _) (by have := HFL.out; omega) (by have := HSZ.out; first | omega | (simp; omega)) ?_; intro v2 w2 q1 q2; replace q2 : Below w.heap.size wr w2 := ((Below.refl _ _).alloc HSZ.out _).trans q2))
        have X : FewInv w w2 70 300 L v2 (.int .i64 ((i : Int) + 1)) := ⟨i + 1, by simp, by have := HN.out; omega, by omega, by rw [HST.out]; exact q1, HG.out.low (q2.mono (Nat.le_refl _))⟩
        have HX := Lib.hid X
        clear q1 q2 X
        go_roundw
        have e5 : wrap64 ((i : Int) + 1) = (i : Int) + 1 := IntWalk.wrap64_in _ (by omega)
        case rel => (try rw [e5]); first | exact HX.out | ((repeat apply Exists.intro); exact HX.out) | ((repeat apply Exists.intro); refine ⟨HX.out, ?_⟩; first | rfl | simp [y1, y2, y3, y4])
        case measure => (have e5 : wrap64 ((i : Int) + 1) = (i : Int) + 1 := IntWalk.wrap64_in _ (by omega)); first | exact measF hlt.1 | exact measFW hlt.1 e5
    · by_cases hik : i ≤ 70
      · have HE := Lib.hid (fewP_end (m := 300) (k := 70) HN.out hin hik hlt)
        by_cases h1 : i < n
        · have y1 : decide (i < n) = true := decide_eq_true h1
          have y2 : decide ((i : Int) < (n : Int)) = true := decide_eq_true (by omega)
          have y3 : decide (i < 70) = false := decide_eq_false (fun q => hlt ⟨h1, q⟩)
          have y4 : decide ((i : Int) < 70) = false := decide_eq_false (fun q => hlt ⟨h1, by omega⟩)
          clear hlt
          go_wp2_with fail
          go_ret
          exact ⟨_, rfl, by rw [← HE.out]; exact HO.out, HG.out⟩
        · have y1 : decide (i < n) = false := decide_eq_false h1
          have y2 : decide ((i : Int) < (n : Int)) = false := decide_eq_false (by omega)
          clear hlt
          go_wp2_with fail
          go_ret
          exact ⟨_, rfl, by rw [← HE.out]; exact HO.out, HG.out⟩
      · exact absurd hik0 hik
set_option maxHeartbeats 4000000 in
set_option maxRecDepth 8000 in
theorem little_c {w : World} {A : Option Addr} {n c : Nat} {L : List PT} (hr : RQ w A n L) :
    Calls Try.prog 24 #[.slice A n c] w fun e w' => ∃ v, e = .returned v ∧ OP w' w.heap.size v (fewP 6 40 L) ∧ Grow w w' := by
  have HR := Lib.hid hr
  have HN := Lib.hid hr.1
  clear hr
  go_enter Try.func24, Try.ntmps24
  go_wp2_with fail
  go_loopw [3, 4] (fun v t wr => FewInv w wr 6 40 L v t) (fun _ t _ => n - (intOf t).toNat)
  case atStart => exact ⟨0, by simp, Nat.zero_le _, Nat.zero_le _, OP.nil _ _, Grow.refl _⟩
  case round =>
    obtain ⟨i, rfl, hi, hik0, hop, hg⟩ := hrel
    have HG := Lib.hid hg
    have HO := Lib.hid hop
    have hin : i ≤ n := by have := HN.out; omega
    have HFL := Lib.hid (show (fewP i 40 L).length ≤ i from fewP_length _ _ _)
    clear hg hi hop
    by_cases hlt : i < n ∧ i < 6
    · obtain ⟨b, o, r, hrk, rfl, hb, d0, d1⟩ := HR.out.at_ hlt.1
      replace d0 := HG.out.cell d0
      replace d1 := HG.out.cell d1
      have HST := Lib.hid (fewP_step (m := 40) hrk)
      have y1 : decide (i < n) = true := decide_eq_true hlt.1
      have y2 : decide ((i : Int) < (n : Int)) = true := decide_eq_true (by omega)
      have y3 : decide (i < 6) = true := decide_eq_true hlt.2
      have y4 : decide ((i : Int) < 6) = true := decide_eq_true (by omega)
      have hin1 := hlt.1
      have hik := hlt.2
      have hbz : b ≠ wr.heap.size := by have := HG.out.size; omega
      have hbl : b < wr.heap.size := by have := HG.out.size; omega
      have HSZ := Lib.hid HG.out.size
      clear hrk
      by_cases hs : 40 < r.dat.size
      · have s1 : decide (40 < r.dat.size) = true := decide_eq_true hs
        have s2 : decide (((40 : Int)) < (r.dat.size : Int)) = true := decide_eq_true (by omega)
        have hcut : cutP 40 r = ⟨r.pos, r.dat.extract 0 40⟩ := by unfold cutP; rw [if_pos hs]
        rw [hcut] at HST
        have hs' : 40 ≤ r.dat.size := by omega
        clear hcut hs
        go_wp2_with (at_builtin; go_loud (refine wpList_appP1 rfl (.tmp 28) (.tmp 30) rfl w.heap.size _ (fewP i 40 L) rfl ⟨r.pos, r.dat.extract 0 40⟩ (by first | rfl | (show Value.slice (some ⟨wr.heap.size + 1, 0, none⟩) 1 1 = _; simp)) (HO.out.alloc _) (by have := HFL.out; omega) (by have := HSZ.out; first | omega | (simp; omega)) ?_; intro v2 w2 q1 q2; replace q2 : Below w.heap.size wr w2 := ((Below.refl _ _).alloc HSZ.out _).trans q2))
        have X : FewInv w w2 6 40 L v2 (.int .i64 ((i : Int) + 1)) := ⟨i + 1, by simp, by have := HN.out; omega, by omega, by rw [HST.out]; exact q1, HG.out.low (q2.mono (Nat.le_refl _))⟩
        have HX := Lib.hid X
        clear q1 q2 X
        go_roundw
        have e5 : wrap64 ((i : Int) + 1) = (i : Int) + 1 := IntWalk.wrap64_in _ (by omega)
        case rel => (try rw [e5]); first | exact HX.out | ((repeat apply Exists.intro); exact HX.out) | ((repeat apply Exists.intro); refine ⟨HX.out, ?_⟩; first | rfl | simp [y1, y2, y3, y4])
        case measure => (have e5 : wrap64 ((i : Int) + 1) = (i : Int) + 1 := IntWalk.wrap64_in _ (by omega)); first | exact measF hlt.1 | exact measFW hlt.1 e5
      · have s1 : decide (40 < r.dat.size) = false := decide_eq_false hs
        have s2 : decide (((40 : Int)) < (r.dat.size : Int)) = false := decide_eq_false (by omega)
        have hcut : cutP 40 r = r := by unfold cutP; rw [if_neg hs]
        rw [hcut] at HST
        clear hcut hs
        go_wp2_with (at_builtin; go_loud (refine wpList_appP1 rfl (.tmp 28) (.tmp 30) rfl w.heap.size _ (fewP i 40 L) rfl r (by first | rfl | (show Value.slice (some ⟨wr.heap.size + 1, 0, none⟩) 1 1 = _; simp)) (HO.out.alloc _) (by have := HFL.out; omega) (by have := HSZ.out; first | omega | (simp; omega)) ?_; intro v2 w2 q1 q2; replace q2 : Below w.heap.size wr w2 := ((Below.refl _ _).alloc HSZ.out _).trans q2))
        have X : FewInv w w2 6 40 L v2 (.int .i64 ((i : Int) + 1)) := ⟨i + 1, by simp, by have := HN.out; omega, by omega, by rw [HST.out]; exact q1, HG.out.low (q2.mono (Nat.le_refl _))⟩
        have HX := Lib.hid X
        clear q1 q2 X
        go_roundw
        have e5 : wrap64 ((i : Int) + 1) = (i : Int) + 1 := IntWalk.wrap64_in _ (by omega)
        case rel => (try rw [e5]); first | exact HX.out | ((repeat apply Exists.intro); exact HX.out) | ((repeat apply Exists.intro); refine ⟨HX.out, ?_⟩; first | rfl | simp [y1, y2, y3, y4])
        case measure => (have e5 : wrap64 ((i : Int) + 1) = (i : Int) + 1 := IntWalk.wrap64_in _ (by omega)); first | exact measF hlt.1 | exact measFW hlt.1 e5
    · by_cases hik : i ≤ 6
      · have HE := Lib.hid (fewP_end (m := 40) (k := 6) HN.out hin hik hlt)
        by_cases h1 : i < n
        · have y1 : decide (i < n) = true := decide_eq_true h1
          have y2 : decide ((i : Int) < (n : Int)) = true := decide_eq_true (by omega)
          have y3 : decide (i < 6) = false := decide_eq_false (fun q => hlt ⟨h1, q⟩)
          have y4 : decide ((i : Int) < 6) = false := decide_eq_false (fun q => hlt ⟨h1, by omega⟩)
          clear hlt
          go_wp2_with fail
          go_ret
          exact ⟨_, rfl, by rw [← HE.out]; exact HO.out, HG.out⟩
        · have y1 : decide (i < n) = false := decide_eq_false h1
          have y2 : decide ((i : Int) < (n : Int)) = false := decide_eq_false (by omega)
          clear hlt
          go_wp2_with fail
          go_ret
          exact ⟨_, rfl, by rw [← HE.out]; exact HO.out, HG.out⟩
      · exact absurd hik0 hik
end Go.Proofs.Ytncjfljmnkfghaa

namespace Go.Proofs.Ytncjfljmnkfghaa
open Go.RowKit

set_option maxHeartbeats 1000000 in
theorem pats_same {A A' : Option Addr} {n c c' : Nat} {L : List PT} {w : World} (hx : RP w A n L) (hy : RP w A' n L) (hn : n ≤ 60000) :
    Calls Try.prog 19 #[.slice A n c, .slice A' n c'] w fun e w' => e = .returned (.bool true) ∧ ∃ k, w' = w.drewN k := by
  have k0 : ((n : Int) != (n : Int)) = false := by simp
  go_enter Try.func19, Try.ntmps19
  go_wp2_with fail
  go_loopw [5] (fun i wr => ∃ k m : Nat, k ≤ n ∧ i = .int .i64 k ∧ wr = w.drewN m) (fun i _ => n - (intOf i).toNat)
  case atStart => exact ⟨0, 0, Nat.zero_le _, rfl, rfl⟩
  case round =>
    obtain ⟨k, m, hk, rfl, rfl⟩ := hrel
    by_cases hlt : k < n
    · obtain ⟨b, o, r, hr, rfl, -, c1, c2⟩ := hx.at_ hlt
      obtain ⟨b', o', r', hr', rfl, -, d1, d2⟩ := hy.at_ hlt
      obtain rfl : r = r' := by rw [hr] at hr'; injection hr'
      clear hr hr'
      go_wp2_with fail
      go_quiet (fail)
      go_wp2_with fail
      go_roundw
      case rel => exact ⟨k + 1, _, by omega, by go_num, rfl⟩
      case measure => simp [intOf]; omega
    · go_wp2_with fail
      go_ret
      exact ⟨rfl, _, rfl⟩

/-- A slice that reads as rows of patches. -/
def RV (w : World) (A : Option Addr) (n : Nat) (R : List RW) : Prop := R.length = n ∧ n ≤ 1000000 ∧ Rd w w.heap.size A 1 n (R.map RW.v) ∧ ∀ r ∈ R, OP w 0 r.v r.L
section
variable {w w' : World} {A : Option Addr} {n base : Nat} {R : List RW} {v : Value}
theorem RV.keep (h : RV w A n R) (g : Grow w w') : RV w' A n R := ⟨h.1, h.2.1, (Rd.below h.2.2.1 g).more g.size, fun r hr => (h.2.2.2 r hr).keep g⟩
theorem RV.at_ (h : RV w A n R) {i : Nat} (hi : i < n) : ∃ b o r, R[i]? = some r ∧ A = some ⟨b, o, none⟩ ∧ b < w.heap.size ∧ w.cell? ⟨b, o + i, none⟩ = some r.v ∧ OP w 0 r.v r.L := by
  obtain ⟨hn, -, ⟨hl, hr⟩, ho⟩ := h
  obtain ⟨b, o, rfl, hb, hc⟩ := hr (by omega)
  have hi' : i < R.length := by omega
  exact ⟨b, o, R[i], by simp [hi'], rfl, hb, hc i _ (by simp [hi']), ho _ (List.getElem_mem _)⟩
theorem RV.take (h : RV w A n R) {k : Nat} (hk : k ≤ n) : RV w A k (R.take k) := by
  obtain ⟨h1, h2, h3, h4⟩ := h
  refine ⟨by rw [List.length_take]; omega, by omega, ?_, fun r hr => h4 r (List.mem_of_mem_take hr)⟩
  have := Rd.take h3 hk
  rw [Nat.mul_one] at this
  rw [List.map_take]
  exact this
theorem OW.rv (h : OW w base v R) (hn : R.length ≤ 1000000) : ∃ A c, v = .slice A R.length c ∧ R.length ≤ c ∧ RV w A R.length R := by
  obtain ⟨A, c, rfl, h1, -, -, -⟩ := own_form h.1
  exact ⟨A, c, rfl, h1, rfl, hn, Rd.of_own h.1, fun r hr => (h.2.1 r hr).low (Nat.zero_le _)⟩
end

set_option maxHeartbeats 1000000 in
theorem recs_same {A A' : Option Addr} {n c c' : Nat} {R R' : List RW} {w : World} (hx : RV w A n R) (hy : RV w A' n R') (he : R.map RW.L = R'.map RW.L) (hn : n ≤ 60000) (hL : ∀ r ∈ R, r.L.length ≤ 60000) :
    Calls Try.prog 37 #[.slice A n c, .slice A' n c'] w fun e w' => e = .returned (.bool true) ∧ Grow w w' := by
  have k0 : ((n : Int) != (n : Int)) = false := by simp
  have HX := Lib.hid hx
  have HY := Lib.hid hy
  have HE := Lib.hid he
  have HL := Lib.hid hL
  clear hx hy he hL
  go_enter Try.func37, Try.ntmps37
  go_wp2_with fail
  go_loopw [5] (fun i wr => ∃ k : Nat, k ≤ n ∧ i = .int .i64 k ∧ Grow w wr) (fun i _ => n - (intOf i).toNat)
  case atStart => exact ⟨0, Nat.zero_le _, rfl, Grow.refl _⟩
  case round =>
    obtain ⟨k, hk, rfl, hg⟩ := hrel
    have HG := Lib.hid hg
    clear hg
    by_cases hlt : k < n
    · obtain ⟨b, o, r, hr, rfl, -, c1, o1⟩ := HX.out.at_ hlt
      obtain ⟨b', o', r', hr', rfl, -, d1, o2⟩ := HY.out.at_ hlt
      have hrl : r.L = r'.L := by
        have h1 : (R.map RW.L)[k]? = some r.L := by rw [List.getElem?_map, hr]; rfl
        rw [HE.out, List.getElem?_map, hr'] at h1
        injection h1 with h1
        exact h1.symm
      have hll := HL.out r (List.mem_of_getElem? hr)
      obtain ⟨v, L⟩ := r
      obtain ⟨v', L'⟩ := r'
      simp only at hrl c1 d1 o1 o2 hll
      subst hrl
      obtain ⟨Ar, cr, rfl, -, p1⟩ := o1.rp (by omega)
      obtain ⟨Ar', cr', rfl, -, p2⟩ := o2.rp (by omega)
      have HP1 := Lib.hid p1
      have HP2 := Lib.hid p2
      obtain ⟨q, hq⟩ : ∃ q, q = L.length := ⟨_, rfl⟩
      rw [← hq] at HP1 HP2 c1 d1 hll
      clear hr hr' o1 o2 p1 p2 hq
      go_wp2_with fail
      replace c1 := HG.out.cell c1
      replace d1 := HG.out.cell d1
      go_region_held3 (fun w' => w'.cell? ⟨b, o + k, none⟩ = some (.slice Ar q cr) ∧ w'.cell? ⟨b', o' + k, none⟩ = some (.slice Ar' q cr')) (first | exact ⟨c1, d1⟩ | exact hs3) ((go_at_call 19; go_loud (refine (pats_same (HP1.out.keep (HG.out.trans (Grow.drewN (Grow.refl _) 1))) (HP2.out.keep (HG.out.trans (Grow.drewN (Grow.refl _) 1))) hll).mono ?_; rintro e w3 ⟨rfl, k3, hw3⟩; have g3 : Grow wr w3 := (by rw [hw3]; exact Grow.drewN (Grow.drew (Grow.refl _)) _); have hs3 : w3.cell? ⟨b, o + k, none⟩ = some (.slice Ar q cr) ∧ w3.cell? ⟨b', o' + k, none⟩ = some (.slice Ar' q cr') := ⟨g3.cell c1, g3.cell d1⟩; clear hw3)))
      all_goals
        have X := HG.out.trans g3
        clear c1 d1 hs3 g3
        go_wp2_with fail
        go_roundw
        case rel => exact ⟨k + 1, by omega, by go_num, X⟩
        case measure => simp [intOf]; omega
    · go_wp2_with fail
      go_ret
      exact ⟨rfl, HG.out⟩

/-- Rows of unlike lengths are not the same. -/
theorem recs_len {A A' : Option Addr} {n n' c c' : Nat} {R R' : List RW} {w : World} (_hx : RV w A n R) (_hy : RV w A' n' R') (hn : n ≠ n') :
    Calls Try.prog 37 #[.slice A n c, .slice A' n' c'] w fun e w' => e = .returned (.bool false) ∧ w = w' := by
  have k0 : ((n : Int) != (n' : Int)) = true := by rw [bne_iff_ne]; omega
  go_enter Try.func37, Try.ntmps37
  go_wp2_with fail
  go_ret
  exact ⟨rfl, rfl⟩
end Go.Proofs.Ytncjfljmnkfghaa

namespace Go.Proofs.Ytncjfljmnkfghaa
open Go.RowKit

def PadInv (w wr : World) (bs : List UInt8) (f : Nat) (v : Value) : Prop := ∃ (j : Nat) (A : Option Addr) (N c : Nat), j ≤ f ∧ N = bs.length + j ∧ v = .slice A N c ∧ Own wr w.heap.size A N c (bs ++ List.replicate j 0) ∧ Grow w wr
theorem rl_encode_long {w : World} {A : Option Addr} {n c : Nat} {L : List PT} (hn : L.length = n) (hl : 64 < n) :
    Calls Try.prog 14 #[.slice A n c] w fun e w' => EncRes w w' L e := by
  have HM := Lib.hid (show mayP L = false by rw [Bool.eq_false_iff]; intro q; have := (mayP_iff.1 q).1; omega)
  have z1 : decide (64 < n) = true := decide_eq_true hl
  have z2 : decide ((64 : Int) < (n : Int)) = true := decide_eq_true (by omega)
  clear hn
  go_enter Try.func14, Try.ntmps14
  go_wp2_with fail
  go_ret2
  exact .inr ⟨HM.out, rfl, Grow.refl _⟩

set_option maxHeartbeats 4000000 in
set_option maxRecDepth 8000 in
theorem rl_encode_go {w : World} {A : Option Addr} {n c : Nat} {L : List PT} (hr : RP w A n L) (hl : n ≤ 64) (hw : ∀ p ∈ L, p.wide) :
    Calls Try.prog 14 #[.slice A n c] w fun e w' => EncRes w w' L e := by
  have HR := Lib.hid hr
  have HN := Lib.hid hr.1
  have HW := Lib.hid hw
  have z1 : decide (64 < n) = false := decide_eq_false (by omega)
  have z2 : decide ((64 : Int) < (n : Int)) = false := decide_eq_false (by omega)
  clear hr hw
  go_enter Try.func14, Try.ntmps14
  go_wp2_with fail
  refine (rput_s (n := 0) (bs := []) 2 Sl.nil (by simp [fitsB]; omega) (by omega) (by simp) (by omega)).mono ?_
  rintro e w1 ⟨A1, c1, rfl, o1, g1⟩
  have HI := Lib.hid (show EncInv w w1 L (.slice A1 2 c1) (.int .i64 0) from ⟨0, 2, A1, c1, rfl, by omega, rfl, by omega, by simpa [encF, HN.out] using o1, by simp, g1⟩)
  clear o1 g1
  go_wp2_with fail
  go_loopw [4, 5] (fun v t wr => EncInv w wr L v t) (fun _ t _ => n - (intOf t).toNat)
  case atStart => exact HI.out
  case round =>
    obtain ⟨k, m, A2, c2, rfl, hk, rfl, hm, o2, hall, g2⟩ := hrel
    clear HI
    by_cases hlt : k < n
    · obtain ⟨b, o, r, hrk, rfl, hb, d0, d1⟩ := HR.out.at_ hlt
      obtain ⟨hk1, hk2⟩ := List.getElem?_eq_some_iff.1 hrk
      have hwd := HW.out r (by rw [← hk2]; exact List.getElem_mem _)
      have e0 := g2.cell d0
      have e1 := g2.cell d1
      have HRK := Lib.hid hk2
      have HWD := Lib.hid hwd
      have HALL := Lib.hid hall
      have HD := Lib.hid (And.intro d0 d1)
      clear d0 d1 hrk hwd hall hk2
      go_wp2_with fail
      refine (ref1_fits r.pos 4 _).mono ?_
      rintro e w' ⟨rfl, rfl⟩
      cases hf : fitsB r.pos 4 with
      | false =>
        have HM := Lib.hid (show mayP L = false from not_mayP (k := k) hk1 (by rw [HRK.out, PT.may, hf]; rfl))
        clear hf
        go_wp2_with fail
        go_ret2
        exact .inr ⟨HM.out, rfl, g2⟩
      | true =>
        by_cases hs : 256 < r.dat.size
        · have HM := Lib.hid (show mayP L = false from not_mayP (k := k) hk1 (by rw [HRK.out, PT.may, hf]; simp; omega))
          have y1 : decide (256 < r.dat.size) = true := decide_eq_true hs
          have y2 : decide ((256 : Int) < (r.dat.size : Int)) = true := decide_eq_true (by omega)
          clear hf
          go_wp2_with fail
          go_ret2
          exact .inr ⟨HM.out, rfl, g2⟩
        · have HF := Lib.hid hf
          have y1 : decide (256 < r.dat.size) = false := decide_eq_false hs
          have y2 : decide ((256 : Int) < (r.dat.size : Int)) = false := decide_eq_false (by omega)
          have hsz : r.dat.size ≤ 256 := by omega
          have HMAY := Lib.hid (take_may (k := k) hk1 HALL.out (by rw [HRK.out, PT.may, hf]; simp; omega))
          clear hf hs
          have s2 := o2.sl
          have HS3 := Lib.hid s2
          have HG3 := Lib.hid g2
          have HO := Lib.hid o2
          have hmb : m ≤ 20000 := by omega
          have hm4 : m + (Int.toNat 4) = m + 4 := rfl
          clear s2 o2
          go_wp2_with fail
          refine (rput_s (m + 4) HS3.out HF.out HWD.out.2 hm4 (by omega)).mono ?_
          rintro e w4 ⟨A4, c4, rfl, o4, g4⟩
          have HG4 := Lib.hid (HG3.out.trans g4)
          have s4 := o4.sl
          have l4 := g4.size
          have f0 := HG4.out.cell HD.out.1; have f1 := HG4.out.cell HD.out.2
          clear HS3 o4 e0 e1
          go_wp2_with fail
          refine (rput_s (m + 6) s4 (k := (r.dat.size : Int)) (by simp [fitsB]; omega) (by omega) (by simp) (by omega)).mono ?_
          rintro e w5 ⟨A5, c5, rfl, o5, g5⟩
          have HG5 := Lib.hid (HG4.out.trans g5)
          have h0 := HG5.out.cell HD.out.1; have h1 := HG5.out.cell HD.out.2
          have o5' := o5.low (B := w.heap.size) (Nat.le_trans HG3.out.size l4)
          have HZ5 := Lib.hid HG5.out.size
          have HL5 := Lib.hid o5'.1
          clear o5 s4 f0 f1 l4
          go_wp2_with (at_builtin; refine wpList_appS rfl (.tmp 51) (.tmp 56) rfl w.heap.size _ _ rfl o5'.2.2 r.dat rfl (by rw [HL5.out]; omega) HZ5.out ?_; intro v6 w6 q1 q2; obtain ⟨A6, c6, rfl, o6⟩ := Own.ofOB q1 (m + 6 + r.dat.size) (by rw [List.length_append, HL5.out]; exact congrArg _ (PT.txt_length r)) (by omega); clear q1)
          have X : EncInv w w6 L (.slice A6 (m + 6 + r.dat.size) c6) (.int .i64 ((k : Int) + 1)) := ⟨k + 1, _, A6, c6, by simp, hk1, rfl, by omega, by
            have := encF_take (L := L) (k := k) hk1
            rw [this, HRK.out, PT.enc]
            simpa [List.append_assoc, PT.txt] using o6, HMAY.out, HG5.out.low q2⟩
          have e5 := wrap_small1 (show k < 64 by omega)
          clear o6 q2 o5' h0 h1
          go_roundw
          case rel => (try rw [e5]); first | exact X | ((repeat apply Exists.intro); exact X) | ((repeat apply Exists.intro); refine ⟨X, ?_⟩; rfl)
          case measure => first | exact measP hlt | exact measPW hlt e5
    · obtain rfl : k = n := by have := HN.out; omega
      have HMAY := Lib.hid (show mayP L = true from mayP_iff.2 ⟨by have := HN.out; omega, by rw [List.take_of_length_le (by have := HN.out; omega)] at hall; exact hall⟩)
      have HB := Lib.hid (show leB L.length 2 ++ encF (L.take k) = bodyP L by rw [List.take_of_length_le (by have := HN.out; omega)]; rfl)
      have HO := Lib.hid o2
      have HG := Lib.hid g2
      have hmb : m ≤ 20000 := by omega
      have s2 := o2.sl
      have HEQ := Lib.hid (encP_le HMAY.out)
      obtain ⟨bd, hbd⟩ : ∃ bd, bd = bodyP L := ⟨_, rfl⟩
      rw [HB.out, ← hbd] at s2
      have HBD := Lib.hid hbd
      have HLB := Lib.hid s2.1
      clear o2 hall g2 hlt hbd
      go_wp2_with fail
      refine (rsum_s s2).mono ?_
      rintro e w3 ⟨q, rfl, hq, hq1, rfl⟩
      have s3 := s2
      have HG3 := HG
      have hm4 : m + (Int.toNat 4) = m + 4 := rfl
      clear s2
      go_wp2_with fail
      refine (rput_s (m + 4) s3 (k := (q : Int)) (by simp [fitsB]; omega) (by omega) hm4 (by omega)).mono ?_
      rintro e w4 ⟨A4, c4, rfl, o4, g4⟩
      have HG4 := Lib.hid (HG3.out.trans g4)
      have HZ4 := Lib.hid HG4.out.size
      have o4' := o4.low (B := w.heap.size) HG3.out.size
      have hbb : bd ++ leB (q : Int).toNat (Int.toNat 4) = sumB bd := by rw [hq.out]; rfl
      rw [hbb] at o4'
      have hlb : (sumB bd).length = m + 4 := by rw [sumB_length, HLB.out]
      have hfl := fill_ltP (m + 4)
      obtain ⟨f, hf⟩ : ∃ f, f = fillN (m + 4) := ⟨_, rfl⟩
      rw [← hf] at hfl
      have HF := Lib.hid hf
      have hf8 : (m + 4 + f) % 8 = 0 ∧ ∀ j, j < f → (m + 4 + j) % 8 ≠ 0 := by
        rw [hf, fillN]
        refine ⟨by omega, ?_⟩
        intro j hj
        omega
      have HF8 := Lib.hid hf8
      have HLS := Lib.hid hlb
      have HI := Lib.hid (show PadInv w w4 (sumB bd) f (.slice A4 (m + 4) c4) from ⟨0, A4, m + 4, c4, Nat.zero_le _, by rw [hlb], rfl, by simpa using o4', HG4.out⟩)
      clear o4 g4 s3 hbb hlb hf hf8 o4' hq
      go_wp2_with fail
      go_loopw [4] (fun v wr => PadInv w wr (sumB bd) f v) (fun v _ => m + 4 + f - lenV v)
      case atStart => exact HI.out
      case round =>
        obtain ⟨j, A9, N, c9, hj, hN, rfl, o9, g9⟩ := hrel
        rw [HLS.out] at hN
        have hNs : N ≤ 30000 := by omega
        have HO9 := Lib.hid o9
        have HZ9 := Lib.hid g9.size
        by_cases hlt : j < f
        · have hne := HF8.out.2 j hlt
          rw [← hN] at hne
          have hne1 : ((N : Int) % 8 != 0) = true := by simp; omega
          have HN := Lib.hid hN
          clear hN hne o9
          go_wp2_with (at_builtin; refine wpList_app1 rfl (.tmp 66) (.tmp 67) rfl w.heap.size _ _ rfl _ rfl HO9.out.2.2 0 (by rfl) (by have := HO9.out.1; omega) HZ9.out ?_; intro v10 w10 hown10 hb10)
          rw [List.append_assoc, ← List.replicate_succ'] at hown10
          obtain ⟨A10, c10, rfl, o10⟩ := Own.ofOB hown10 (N + 1) (by have := HLS.out; have := HN.out; simp; omega) (by omega)
          have X : PadInv w w10 (sumB bd) f (.slice A10 (N + 1) c10) := ⟨j + 1, A10, N + 1, c10, hlt, by have := HLS.out; have := HN.out; omega, rfl, o10, g9.low hb10⟩
          have HX := Lib.hid X
          have hM : m + 4 + f - lenV (.slice A10 (N + 1) c10) < m + 4 + f - lenV (.slice A9 N c9) := by have := HN.out; simp only [lenV]; omega
          clear hown10 X o10
          go_roundw
          case rel => exact HX.out
          case measure => exact hM
        · obtain rfl : j = f := by omega
          have hne := HF8.out.1
          rw [← hN] at hne
          have hne1 : ((N : Int) % 8 != 0) = false := by simp; omega
          have he : sumB bd ++ List.replicate j 0 = encP L := by rw [encP, ← HBD.out, HF.out, HLS.out]
          rw [he] at o9
          have HN := Lib.hid hN
          have HE := Lib.hid (show N = (encP L).length from o9.1.symm)
          have HO10 := Lib.hid o9
          clear hN hne he o9 HO9
          go_wp2_with fail
          go_ret2
          refine .inl ⟨HMAY.out, A9, c9, ?_, ?_, g9⟩
          · rw [← HE.out]; rfl
          · rw [← HE.out]; exact HO10.out

theorem rl_encode {w : World} {A : Option Addr} {n c : Nat} {L : List PT} (hr : RP w A n L) (hw : ∀ p ∈ L, p.wide) :
    Calls Try.prog 14 #[.slice A n c] w fun e w' => EncRes w w' L e := by
  by_cases h : 64 < n
  · exact rl_encode_long hr.1 h
  · exact rl_encode_go hr (by omega) hw
end Go.Proofs.Ytncjfljmnkfghaa
