/- few, little: the first patches, cut. An argument that is a slice of patches, or a slice of such slices. bytes.Equal. commonsref08.Decode. No statement of the seat is proved here. -/
import Derived.Test.YtncjfljmnkfghaaZ06
import Derived.Test.YtncjfljmnkfghaaZ01
import Derived.DataReads
import Derived.Test.YtncjfljmnkfghaaZ05
import Derived.Laws.BytesArg
namespace Go.Proofs.Ytncjfljmnkfghaa
open Go.RowKit

def cutP (m : Nat) (p : PT) : PT := ⟨p.pos, if m < p.dat.size then p.dat.extract 0 m else p.dat⟩
def fewP (k m : Nat) (L : List PT) : List PT := (L.take k).map (cutP m)
theorem fewP_length (k m : Nat) (L : List PT) : (fewP k m L).length ≤ k := by simp [fewP]; omega
theorem cutP_size {m : Nat} (p : PT) : (cutP m p).dat.size ≤ m := by
  unfold cutP
  by_cases h : m < p.dat.size
  · simp [h, ByteArray.size_extract]; omega
  · simp [h]; omega
theorem fewP_wide {k m : Nat} {L : List PT} (h : ∀ p ∈ L, p.wide) : ∀ p ∈ fewP k m L, p.wide := by
  intro p hp
  obtain ⟨q, hq, rfl⟩ := List.mem_map.1 hp
  exact h q (List.mem_of_mem_take hq)
theorem fewP_few {k m : Nat} {L : List PT} : ∀ p ∈ fewP k m L, p.dat.size ≤ m := by
  intro p hp
  obtain ⟨q, hq, rfl⟩ := List.mem_map.1 hp
  exact cutP_size q
theorem fewP_step {i m : Nat} {L : List PT} {r : PT} (h : L[i]? = some r) : fewP (i + 1) m L = fewP i m L ++ [cutP m r] := by
  rw [fewP, List.take_add_one, h]; simp [fewP]
theorem fewP_end {i k m n : Nat} {L : List PT} (hn : L.length = n) (hi : i ≤ n) (hk : i ≤ k) (h : ¬ (i < n ∧ i < k)) : fewP i m L = fewP k m L := by
  unfold fewP
  congr 1
  rcases Nat.lt_or_ge i k with q | q
  · rw [List.take_of_length_le (by omega), List.take_of_length_le (by omega)]
  · rw [show i = k by omega]
/-- A slice that reads as patches, of any length. -/
def RQ (w : World) (A : Option Addr) (n : Nat) (L : List PT) : Prop := L.length = n ∧ Rd w w.heap.size A 2 n (pcs L)
theorem RP.rq {w : World} {A : Option Addr} {n : Nat} {L : List PT} (h : RP w A n L) : RQ w A n L := ⟨h.1, h.2.2⟩
theorem RQ.keep {w w' : World} {A : Option Addr} {n : Nat} {L : List PT} (h : RQ w A n L) (g : Grow w w') : RQ w' A n L := ⟨h.1, (Rd.below h.2 g).more g.size⟩
theorem RQ.at_ {w : World} {A : Option Addr} {n : Nat} {L : List PT} (h : RQ w A n L) {i : Nat} (hi : i < n) : ∃ b o r, L[i]? = some r ∧ A = some ⟨b, o, none⟩ ∧ b < w.heap.size ∧ w.cell? ⟨b, o + i * 2, none⟩ = some (.int .i64 r.pos) ∧ w.cell? ⟨b, o + i * 2 + 1, none⟩ = some (.string r.dat) := by
  obtain ⟨hn, hl, hr⟩ := h
  obtain ⟨b, o, rfl, hb, hc⟩ := hr (by omega)
  have hi' : i < L.length := by omega
  refine ⟨b, o, L[i], by simp [hi'], rfl, hb, ?_, ?_⟩
  · have := hc (i * 2 + 0) _ ((pcs_get L i 0 hi' (by omega)).trans rfl); simpa [Nat.add_assoc] using this
  · have := hc (i * 2 + 1) _ ((pcs_get L i 1 hi' (by omega)).trans rfl); simpa [Nat.add_assoc] using this
def FewInv (w wr : World) (k m : Nat) (L : List PT) (v t : Value) : Prop := ∃ i : Nat, t = .int .i64 (i : Int) ∧ i ≤ L.length ∧ i ≤ k ∧ OP wr w.heap.size v (fewP i m L) ∧ Grow w wr
theorem measF {M k : Nat} (h : k < M) : M - (intOf (.int .i64 ((k : Int) + 1))).toNat < M - (intOf (.int .i64 (k : Int))).toNat := by simp [intOf]; omega
theorem measFW {M k : Nat} (h : k < M) (e : wrap64 ((k : Int) + 1) = (k : Int) + 1) : M - (intOf (.int .i64 (wrap64 ((k : Int) + 1)))).toNat < M - (intOf (.int .i64 (k : Int))).toNat := by rw [e]; exact measF h

set_option maxHeartbeats 4000000 in
set_option maxRecDepth 8000 in
theorem few_c {w : World} {A : Option Addr} {n c : Nat} {L : List PT} (hr : RQ w A n L) :
    Calls Try.prog 12 #[.slice A n c] w fun e w' => ∃ v, e = .returned v ∧ OP w' w.heap.size v (fewP 70 300 L) ∧ Grow w w' := by
  have HR := Lib.hid hr
  have HN := Lib.hid hr.1
  clear hr
  go_enter Try.func12, Try.ntmps12
  go_wp2_with fail
  go_loopw [3, 4] (fun v t wr => FewInv w wr 70 300 L v t) (fun _ t _ => n - (intOf t).toNat)
  case atStart => exact ⟨0, by simp, Nat.zero_le _, Nat.zero_le _, OP.nil _ _, Grow.refl _⟩
  case round =>
    obtain ⟨i, rfl, hi, hik0, hop, hg⟩ := hrel
    have HG := Lib.hid hg
    have HO := Lib.hid hop
    have hin : i ≤ n := by have := HN.out; omega
    have HFL := Lib.hid (show (fewP i 300 L).length ≤ i from fewP_length _ _ _)
    clear hg hi hop
    by_cases hlt : i < n ∧ i < 70
    · obtain ⟨b, o, r, hrk, rfl, hb, d0, d1⟩ := HR.out.at_ hlt.1
      replace d0 := HG.out.cell d0
      replace d1 := HG.out.cell d1
      have HST := Lib.hid (fewP_step (m := 300) hrk)
      have y1 : decide (i < n) = true := decide_eq_true hlt.1
      have y2 : decide ((i : Int) < (n : Int)) = true := decide_eq_true (by omega)
      have y3 : decide (i < 70) = true := decide_eq_true hlt.2
      have y4 : decide ((i : Int) < 70) = true := decide_eq_true (by omega)
      have hin1 := hlt.1
      have hik := hlt.2
      have hbz : b ≠ wr.heap.size := by have := HG.out.size; omega
      have hbl : b < wr.heap.size := by have := HG.out.size; omega
      have HSZ := Lib.hid HG.out.size
      clear hrk
      by_cases hs : 300 < r.dat.size
      · have s1 : decide (300 < r.dat.size) = true := decide_eq_true hs
        have s2 : decide (((300 : Int)) < (r.dat.size : Int)) = true := decide_eq_true (by omega)
        have hcut : cutP 300 r = ⟨r.pos, r.dat.extract 0 300⟩ := by unfold cutP; rw [if_pos hs]
        rw [hcut] at HST
        have hs' : 300 ≤ r.dat.size := by omega
        clear hcut hs
        go_wp2_with (at_builtin; go_loud (refine wpList_appP1 rfl (.tmp 28) (.tmp 30) rfl w.heap.size _ (fewP i 300 L) rfl ⟨r.pos, r.dat.extract 0 300⟩ (by first | rfl | (show Value.slice (some ⟨wr.heap.size + 1, 0, none⟩) 1 1 = _; simp)) (HO.out.alloc _) (by have := HFL.out; omega) (by have := HSZ.out; first | omega | (simp; omega)) ?_; intro v2 w2 q1 q2; replace q2 : Below w.heap.size wr w2 := ((Below.refl _ _).alloc HSZ.out _).trans q2))
        have X : FewInv w w2 70 300 L v2 (.int .i64 ((i : Int) + 1)) := ⟨i + 1, by simp, by have := HN.out; omega, by omega, by rw [HST.out]; exact q1, HG.out.low (q2.mono (Nat.le_refl _))⟩
        have HX := Lib.hid X
        clear q1 q2 X
        go_roundw
        have e5 : wrap64 ((i : Int) + 1) = (i : Int) + 1 := IntWalk.wrap64_in _ (by omega)
        case rel => (try rw [e5]); first | exact HX.out | ((repeat apply Exists.intro); exact HX.out) | ((repeat apply Exists.intro); refine ⟨HX.out, ?_⟩; first | rfl | simp [y1, y2, y3, y4])
        case measure => (have e5 : wrap64 ((i : Int) + 1) = (i : Int) + 1 := IntWalk.wrap64_in _ (by omega)); first | exact measF hlt.1 | exact measFW hlt.1 e5
      · have s1 : decide (300 < r.dat.size) = false := decide_eq_false hs
        have s2 : decide (((300 : Int)) < (r.dat.size : Int)) = false := decide_eq_false (by omega)
        have hcut : cutP 300 r = r := by unfold cutP; rw [if_neg hs]
        rw [hcut] at HST
        clear hcut hs
        go_wp2_with (at_builtin; go_loud (refine wpList_appP1 rfl (.tmp 28) (.tmp 30) rfl w.heap.size _ (fewP i 300 L) rfl r (by first | rfl | (show Value.slice (some ⟨wr.heap.size + 1, 0, none⟩) 1 1 = _; simp)) (HO.out.alloc _) (by have := HFL.out; omega) (by have := HSZ.out; first | omega | (simp; omega)) ?_; intro v2 w2 q1 q2; replace q2 : Below w.heap.size wr w2 := ((Below.refl _ _).alloc HSZ.out _).trans q2))
        have X : FewInv w w2 70 300 L v2 (.int .i64 ((i : Int) + 1)) := ⟨i + 1, by simp, by have := HN.out; omega, by omega, by rw [HST.out]; exact q1, HG.out.low (q2.mono (Nat.le_refl _))⟩
        have HX := Lib.hid X
        clear q1 q2 X
        go_roundw
        have e5 : wrap64 ((i : Int) + 1) = (i : Int) + 1 := IntWalk.wrap64_in _ (by omega)
        case rel => (try rw [e5]); first | exact HX.out | ((repeat apply Exists.intro); exact HX.out) | ((repeat apply Exists.intro); refine ⟨HX.out, ?_⟩; first | rfl | simp [y1, y2, y3, y4])
        case measure => (have e5 : wrap64 ((i : Int) + 1) = (i : Int) + 1 := IntWalk.wrap64_in _ (by omega)); first | exact measF hlt.1 | exact measFW hlt.1 e5
    · by_cases hik : i ≤ 70
      · have HE := Lib.hid (fewP_end (m := 300) (k := 70) HN.out hin hik hlt)
        by_cases h1 : i < n
        · have y1 : decide (i < n) = true := decide_eq_true h1
          have y2 : decide ((i : Int) < (n : Int)) = true := decide_eq_true (by omega)
          have y3 : decide (i < 70) = false := decide_eq_false (fun q => hlt ⟨h1, q⟩)
          have y4 : decide ((i : Int) < 70) = false := decide_eq_false (fun q => hlt ⟨h1, by omega⟩)
          clear hlt
          go_wp2_with fail
          go_ret
          exact ⟨_, rfl, by rw [← HE.out]; exact HO.out, HG.out⟩
        · have y1 : decide (i < n) = false := decide_eq_false h1
          have y2 : decide ((i : Int) < (n : Int)) = false := decide_eq_false (by omega)
          clear hlt
          go_wp2_with fail
          go_ret
          exact ⟨_, rfl, by rw [← HE.out]; exact HO.out, HG.out⟩
      · exact absurd hik0 hik
set_option maxHeartbeats 4000000 in
set_option maxRecDepth 8000 in
theorem little_c {w : World} {A : Option Addr} {n c : Nat} {L : List PT} (hr : RQ w A n L) :
    Calls Try.prog 24 #[.slice A n c] w fun e w' => ∃ v, e = .returned v ∧ OP w' w.heap.size v (fewP 6 40 L) ∧ Grow w w' := by
  have HR := Lib.hid hr
  have HN := Lib.hid hr.1
  clear hr
  go_enter Try.func24, Try.ntmps24
  go_wp2_with fail
  go_loopw [3, 4] (fun v t wr => FewInv w wr 6 40 L v t) (fun _ t _ => n - (intOf t).toNat)
  case atStart => exact ⟨0, by simp, Nat.zero_le _, Nat.zero_le _, OP.nil _ _, Grow.refl _⟩
  case round =>
    obtain ⟨i, rfl, hi, hik0, hop, hg⟩ := hrel
    have HG := Lib.hid hg
    have HO := Lib.hid hop
    have hin : i ≤ n := by have := HN.out; omega
    have HFL := Lib.hid (show (fewP i 40 L).length ≤ i from fewP_length _ _ _)
    clear hg hi hop
    by_cases hlt : i < n ∧ i < 6
    · obtain ⟨b, o, r, hrk, rfl, hb, d0, d1⟩ := HR.out.at_ hlt.1
      replace d0 := HG.out.cell d0
      replace d1 := HG.out.cell d1
      have HST := Lib.hid (fewP_step (m := 40) hrk)
      have y1 : decide (i < n) = true := decide_eq_true hlt.1
      have y2 : decide ((i : Int) < (n : Int)) = true := decide_eq_true (by omega)
      have y3 : decide (i < 6) = true := decide_eq_true hlt.2
      have y4 : decide ((i : Int) < 6) = true := decide_eq_true (by omega)
      have hin1 := hlt.1
      have hik := hlt.2
      have hbz : b ≠ wr.heap.size := by have := HG.out.size; omega
      have hbl : b < wr.heap.size := by have := HG.out.size; omega
      have HSZ := Lib.hid HG.out.size
      clear hrk
      by_cases hs : 40 < r.dat.size
      · have s1 : decide (40 < r.dat.size) = true := decide_eq_true hs
        have s2 : decide (((40 : Int)) < (r.dat.size : Int)) = true := decide_eq_true (by omega)
        have hcut : cutP 40 r = ⟨r.pos, r.dat.extract 0 40⟩ := by unfold cutP; rw [if_pos hs]
        rw [hcut] at HST
        have hs' : 40 ≤ r.dat.size := by omega
        clear hcut hs
        go_wp2_with (at_builtin; go_loud (refine wpList_appP1 rfl (.tmp 28) (.tmp 30) rfl w.heap.size _ (fewP i 40 L) rfl ⟨r.pos, r.dat.extract 0 40⟩ (by first | rfl | (show Value.slice (some ⟨wr.heap.size + 1, 0, none⟩) 1 1 = _; simp)) (HO.out.alloc _) (by have := HFL.out; omega) (by have := HSZ.out; first | omega | (simp; omega)) ?_; intro v2 w2 q1 q2; replace q2 : Below w.heap.size wr w2 := ((Below.refl _ _).alloc HSZ.out _).trans q2))
        have X : FewInv w w2 6 40 L v2 (.int .i64 ((i : Int) + 1)) := ⟨i + 1, by simp, by have := HN.out; omega, by omega, by rw [HST.out]; exact q1, HG.out.low (q2.mono (Nat.le_refl _))⟩
        have HX := Lib.hid X
        clear q1 q2 X
        go_roundw
        have e5 : wrap64 ((i : Int) + 1) = (i : Int) + 1 := IntWalk.wrap64_in _ (by omega)
        case rel => (try rw [e5]); first | exact HX.out | ((repeat apply Exists.intro); exact HX.out) | ((repeat apply Exists.intro); refine ⟨HX.out, ?_⟩; first | rfl | simp [y1, y2, y3, y4])
        case measure => (have e5 : wrap64 ((i : Int) + 1) = (i : Int) + 1 := IntWalk.wrap64_in _ (by omega)); first | exact measF hlt.1 | exact measFW hlt.1 e5
      · have s1 : decide (40 < r.dat.size) = false := decide_eq_false hs
        have s2 : decide (((40 : Int)) < (r.dat.size : Int)) = false := decide_eq_false (by omega)
        have hcut : cutP 40 r = r := by unfold cutP; rw [if_neg hs]
        rw [hcut] at HST
        clear hcut hs
        go_wp2_with (at_builtin; go_loud (refine wpList_appP1 rfl (.tmp 28) (.tmp 30) rfl w.heap.size _ (fewP i 40 L) rfl r (by first | rfl | (show Value.slice (some ⟨wr.heap.size + 1, 0, none⟩) 1 1 = _; simp)) (HO.out.alloc _) (by have := HFL.out; omega) (by have := HSZ.out; first | omega | (simp; omega)) ?_; intro v2 w2 q1 q2; replace q2 : Below w.heap.size wr w2 := ((Below.refl _ _).alloc HSZ.out _).trans q2))
        have X : FewInv w w2 6 40 L v2 (.int .i64 ((i : Int) + 1)) := ⟨i + 1, by simp, by have := HN.out; omega, by omega, by rw [HST.out]; exact q1, HG.out.low (q2.mono (Nat.le_refl _))⟩
        have HX := Lib.hid X
        clear q1 q2 X
        go_roundw
        have e5 : wrap64 ((i : Int) + 1) = (i : Int) + 1 := IntWalk.wrap64_in _ (by omega)
        case rel => (try rw [e5]); first | exact HX.out | ((repeat apply Exists.intro); exact HX.out) | ((repeat apply Exists.intro); refine ⟨HX.out, ?_⟩; first | rfl | simp [y1, y2, y3, y4])
        case measure => (have e5 : wrap64 ((i : Int) + 1) = (i : Int) + 1 := IntWalk.wrap64_in _ (by omega)); first | exact measF hlt.1 | exact measFW hlt.1 e5
    · by_cases hik : i ≤ 6
      · have HE := Lib.hid (fewP_end (m := 40) (k := 6) HN.out hin hik hlt)
        by_cases h1 : i < n
        · have y1 : decide (i < n) = true := decide_eq_true h1
          have y2 : decide ((i : Int) < (n : Int)) = true := decide_eq_true (by omega)
          have y3 : decide (i < 6) = false := decide_eq_false (fun q => hlt ⟨h1, q⟩)
          have y4 : decide ((i : Int) < 6) = false := decide_eq_false (fun q => hlt ⟨h1, by omega⟩)
          clear hlt
          go_wp2_with fail
          go_ret
          exact ⟨_, rfl, by rw [← HE.out]; exact HO.out, HG.out⟩
        · have y1 : decide (i < n) = false := decide_eq_false h1
          have y2 : decide ((i : Int) < (n : Int)) = false := decide_eq_false (by omega)
          clear hlt
          go_wp2_with fail
          go_ret
          exact ⟨_, rfl, by rw [← HE.out]; exact HO.out, HG.out⟩
      · exact absurd hik0 hik
end Go.Proofs.Ytncjfljmnkfghaa

namespace Go.Proofs.Ytncjfljmnkfghaa
open Go.RowKit
open Go.ChangeShapes Go.WideShapes Go.ChangeAt

set_option maxRecDepth 8000 in
theorem trod_pt {H : Type} {enc : TypeId × Value → H} {W : World} {base fuel : Nat} {cs : List Value} {x : DataW H × List MemPlace} {spare : Nat → Bool} {held : Bool}
    (hf : DataW.trod enc Try.prog W base spare held fuel 50 cs = some x) : ∃ p : PT, cs = p.cells ∧ p.wide := by
  obtain ⟨xs, n, _, -, hl, hlen, hg⟩ := DataW.trod_struct Try.underlying50 hf
  have hC : Try.prog.cellsOf 50 = 2 := by kernel_rfl
  have e3 : Try.prog.cellsOf 3 = 1 := by kernel_rfl
  have e9 : Try.prog.cellsOf 9 = 1 := by kernel_rfl
  match cs, hl.trans hC with
  | [c0, c1], _ =>
    match xs, hlen with
    | [y0, y1], _ =>
      have g0 : DataW.trod enc Try.prog W base spare held n 3 [c0] = some y0 := by simpa [e3] using hg 0 _ rfl
      have g1 : DataW.trod enc Try.prog W base spare held n 9 [c1] = some y1 := by simpa [e9] using hg 1 _ rfl
      obtain ⟨z0, h0, -, b0⟩ := DataW.trod_int Try.underlying3 g0
      obtain ⟨z1, h1, -, -⟩ := DataW.trod_string Try.underlying9 g1
      simp only [List.cons.injEq, and_true] at h0 h1
      subst h0 h1
      exact ⟨⟨z0, z1⟩, rfl, i64_bounds b0⟩

set_option maxRecDepth 8000 in
theorem trod_pats {H : Type} {enc : TypeId × Value → H} {W : World} {base fuel : Nat} {cs : List Value} {x : DataW H × List MemPlace} {spare : Nat → Bool} {held : Bool}
    (hf : DataW.trod enc Try.prog W base spare held fuel 22 cs = some x) (hs : ∀ b, spare b = true) :
    ∃ (a : Option Addr) (L : List PT) (c : Nat), cs = [.slice a L.length c] ∧ RQ W a L.length L ∧ L.length ≤ c ∧ ∀ p ∈ L, p.wide := by
  have hC : Try.prog.cellsOf 50 = 2 := by kernel_rfl
  rcases Deep.open_slice Try.underlying22 hf with ⟨hcs, _⟩ | ⟨x, l, c, m, n, D, Pl, hcs, _, hl, hm, hmm, _, hx⟩
  · exact ⟨none, [], 0, hcs, ⟨rfl, Rd.nil⟩, Nat.le_refl _, fun p hp => by simp at hp⟩
  · have hmc : m = c := by rw [hmm, hs]; rfl
    have hel : ∀ i, i < l → ∃ r : PT, r.wide ∧ ∀ j, j < 2 → W.cell? ((x.add (i * 2)).add j) = (r.cells)[j]? := by
      intro i hi
      obtain ⟨cs', h1, ht⟩ := hx i (by omega)
      rw [hC] at h1
      obtain ⟨r, rfl, hw⟩ := trod_pt ht
      exact ⟨r, hw, (World.cells?_some h1).2.2⟩
    obtain ⟨L, hL, hp⟩ := choose_list hel
    refine ⟨some x, L, c, by rw [hL, hcs], ⟨rfl, pcs_length L, fun h0 => ?_⟩, by omega, fun p hp' => ?_⟩
    · have hc0 := (hp 0 h0).2 0 (by omega)
      obtain ⟨b, off, spot⟩ := x
      have hspot : spot = none := by simpa [Addr.add] using World.cell?_spot hc0
      subst hspot
      have hlt := World.block_lt_of_cell? W _ hc0
      refine ⟨b, off, rfl, by simpa [Addr.add] using hlt, fun j u hj => ?_⟩
      have hj' : j < L.length * 2 := by
        have := (List.getElem?_eq_some_iff.1 hj).1
        rwa [pcs_length] at this
      have hi : j / 2 < L.length := by omega
      have hc := (hp (j / 2) hi).2 (j % 2) (by omega)
      rw [← pcs_get L (j / 2) (j % 2) hi (by omega), show j / 2 * 2 + j % 2 = j by omega, hj] at hc
      rw [← hc, Addr.add_lit, Addr.add_lit, show off + j / 2 * 2 + j % 2 = off + j by omega]
    · obtain ⟨i, hi, rfl⟩ := List.getElem_of_mem hp'
      exact (hp i hi).1

set_option maxRecDepth 8000 in
theorem open_pats {H : Type} {enc : TypeId × Value → H} {W : World} {b0 base : Nat} {v : Value} {d : DataW H} {p : List MemPlace} {spare : Nat → Bool} {held : Bool}
    (hv : Value.okWide Try.prog W .any b0 22 v) (h : DataW.Trod enc Try.prog W base spare held 22 v d p) (hs : ∀ b, spare b = true) :
    ∃ (a : Option Addr) (L : List PT) (c : Nat), v = .slice a L.length c ∧ RQ W a L.length L ∧ L.length ≤ c ∧ ∀ p ∈ L, p.wide := by
  obtain ⟨a, len, cap, rfl⟩ := okWide_slice Try.underlying22 hv
  obtain ⟨fuel, hf⟩ := h
  obtain ⟨a', L, c, e, h1, h2, h3⟩ := trod_pats hf hs
  simp [Value.cells] at e
  obtain ⟨rfl, rfl, rfl⟩ := e
  exact ⟨_, L, _, rfl, h1, h2, h3⟩

/-- A slice of slices of patches that is read. -/
def RR2 (w : World) (A : Option Addr) (LL : List (List PT)) : Prop :=
  (∀ L ∈ LL, ∀ p ∈ L, p.wide) ∧ (0 < LL.length → ∃ b o, A = some ⟨b, o, none⟩ ∧ b < w.heap.size ∧ ∀ k (h : k < LL.length), ∃ Ak ck, w.cell? ⟨b, o + k, none⟩ = some (.slice Ak (LL[k]).length ck) ∧ RQ w Ak (LL[k]).length LL[k] ∧ (LL[k]).length ≤ ck)
set_option maxRecDepth 8000 in
theorem open_rows {H : Type} {enc : TypeId × Value → H} {W : World} {b0 base : Nat} {v : Value} {d : DataW H} {p : List MemPlace} {spare : Nat → Bool} {held : Bool}
    (hv : Value.okWide Try.prog W .any b0 41 v) (h : DataW.Trod enc Try.prog W base spare held 41 v d p) (hs : ∀ b, spare b = true) :
    ∃ (a : Option Addr) (L : List (List PT)) (c : Nat), v = .slice a L.length c ∧ RR2 W a L ∧ L.length ≤ c := by
  obtain ⟨a, len, cap, rfl⟩ := okWide_slice Try.underlying41 hv
  obtain ⟨fuel, hf⟩ := h
  rcases Deep.open_slice1 Try.underlying41 (by kernel_rfl) hf with ⟨hcs, _⟩ | ⟨x, l, c, m, n, V, D, Pl, hcs, _, hl, hm, hmm, _, hx⟩
  · simp [Value.cells] at hcs
    obtain ⟨rfl, rfl, rfl⟩ := hcs
    exact ⟨none, [], 0, rfl, ⟨fun L hL => by simp at hL, fun h0 => by simp at h0⟩, Nat.le_refl _⟩
  · simp [Value.cells] at hcs
    obtain ⟨rfl, rfl, rfl⟩ := hcs
    have hmc : m = cap := by rw [hmm, hs]; rfl
    have hel : ∀ i, i < len → ∃ L : List PT, (∀ p ∈ L, p.wide) ∧ ∃ Ak ck, V i = .slice Ak L.length ck ∧ RQ W Ak L.length L ∧ L.length ≤ ck := by
      intro i hi
      obtain ⟨_, ht⟩ := hx i (by omega)
      obtain ⟨Ak, L, ck, e, h1, h2, h3⟩ := trod_pats ht hs
      injection e with e
      exact ⟨L, h3, Ak, ck, e, h1, h2⟩
    obtain ⟨LL, hL, hp⟩ := choose_list hel
    refine ⟨some x, LL, cap, by rw [hL], ⟨fun L hLm => ?_, fun h0 => ?_⟩, by omega⟩
    · obtain ⟨i, hi, rfl⟩ := List.getElem_of_mem hLm
      exact (hp i hi).1
    · rw [hL] at h0
      obtain ⟨hc0, _⟩ := hx 0 (by omega)
      obtain ⟨b, off, spot⟩ := x
      have hspot : spot = none := by simpa [Addr.add] using World.cell?_spot hc0
      subst hspot
      have hlt := World.block_lt_of_cell? W _ hc0
      refine ⟨b, off, rfl, by simpa [Addr.add] using hlt, fun k hk => ?_⟩
      obtain ⟨-, Ak, ck, e, h1⟩ := hp k hk
      obtain ⟨hck, _⟩ := hx k (by omega)
      rw [Addr.add_lit, e] at hck
      exact ⟨Ak, ck, hck, h1⟩
end Go.Proofs.Ytncjfljmnkfghaa

namespace Go.Proofs.Ytncjfljmnkfghaa
open Go.RowKit

theorem strOf_bytes (bs : List UInt8) : strOfNums (bs.map fun u => (u.toNat : Int)) = ⟨bs.toArray⟩ := by
  unfold strOfNums
  congr 1
  simp [Function.comp_def]

/-- string(b). -/
theorem conv_s {A : Option Addr} {n c : Nat} {bs : List UInt8} {w : World} (h : Sl w A n bs) : (convert 24 9 (.slice A n c)).run Try.prog w = .ok (.string ⟨bs.toArray⟩) w := by
  rcases Nat.eq_zero_or_pos n with hn | hn
  · subst hn
    obtain rfl : bs = [] := List.eq_nil_of_length_eq_zero h.1
    rcases A with _ | a
    · exact run_convert_bytes_nil w 24 5 Try.underlying24 Try.underlying5 0 c _ Try.underlying9
    · rw [run_convert_bytes_string w 24 9 5 _ 0 c Try.underlying24 Try.underlying5 Try.underlying9]
      simp [Conv.bytesToString, loadCells]
      rfl
  · obtain ⟨b, o, rfl, hb, hc⟩ := h.all hn
    have := run_convert_bytes_arg (P := Try.prog) w 24 5 Try.underlying24 Try.underlying5 b o n c (bs.map fun u => (u.toNat : Int)) (by simp [h.1])
      (fun i hi => by rw [hc i hi, List.getD_eq_getElem?_getD, List.getElem?_map, List.getElem?_eq_getElem (by rw [h.1]; exact hi)]; rfl) _ Try.underlying9
    rw [strOf_bytes] at this
    exact this

end Go.Proofs.Ytncjfljmnkfghaa

namespace Go.Proofs.Ytncjfljmnkfghaa
open Go.RowKit

/-- What Decode tells. -/
def DecRes (w w' : World) (b : List UInt8) (e : Ending) : Prop :=
  ∃ v, e = .returned (.tuple #[v, .int .i64 (dpU b : Nat), .int .i64 (dpE b)]) ∧ OP w' w.heap.size v (dpL b) ∧ Grow w w'
theorem DecRes.bad {w w' : World} {b : List UInt8} {x : Int} (h : dpE b = x) (h0 : x ≠ 0) (g : Grow w w') : DecRes w w' b (.returned (.tuple #[.slice none 0 0, .int .i64 0, .int .i64 x])) := by
  subst h
  refine ⟨.slice none 0 0, ?_, ?_, g⟩
  · rw [dpU, if_neg h0]; rfl
  · rw [dpL, if_neg h0]; exact OP.nil _ _
/-- The rest of the patches, told from one on. -/
def DecLink (b : List UInt8) (N i a : Nat) (L : List PT) : Prop :=
  rdE b (N - i) a = rdE b N 2 ∧ rdZ b (N - i) a = rdZ b N 2 ∧ L ++ rdL b (N - i) a = rdL b N 2
theorem DecLink.start (b : List UInt8) (N : Nat) : DecLink b N 0 2 [] := ⟨rfl, rfl, rfl⟩
theorem DecLink.step {b : List UInt8} {N i a : Nat} {L : List PT} (h : DecLink b N i a L) (hi : i < N) (h1 : a + 6 + ptK b a ≤ b.length) (h2 : ptK b a ≤ 256) : DecLink b N (i + 1) (a + 6 + ptK b a) (L ++ [ptAt b a]) := by
  obtain ⟨q1, q2, q3⟩ := h
  have hs : N - i = (N - (i + 1)) + 1 := by omega
  rw [hs] at q1 q2 q3
  refine ⟨?_, q2, ?_⟩
  · rw [← q1, rdE_step h1 h2]
  · rw [← q3, rdL, List.append_assoc]; rfl
theorem DecLink.short {b : List UInt8} {N i a : Nat} {L : List PT} (h : DecLink b N i a L) (hi : i < N) (h1 : b.length < a + 6) : rdE b N 2 = 3 := by
  rw [← h.1, show N - i = (N - (i + 1)) + 1 by omega, rdE, if_pos h1]
theorem DecLink.odd {b : List UInt8} {N i a : Nat} {L : List PT} (h : DecLink b N i a L) (hi : i < N) (h1 : a + 6 ≤ b.length) (h2 : 256 < ptK b a) : rdE b N 2 = 2 := by
  rw [← h.1, show N - i = (N - (i + 1)) + 1 by omega, rdE, if_neg (by omega), if_pos h2]
theorem DecLink.less {b : List UInt8} {N i a : Nat} {L : List PT} (h : DecLink b N i a L) (hi : i < N) (h1 : a + 6 ≤ b.length) (h2 : ptK b a ≤ 256) (h3 : b.length < a + 6 + ptK b a) : rdE b N 2 = 3 := by
  rw [← h.1, show N - i = (N - (i + 1)) + 1 by omega, rdE, if_neg (by omega), if_neg (by omega), if_pos h3]
theorem DecLink.done {b : List UInt8} {N a : Nat} {L : List PT} (h : DecLink b N N a L) : rdE b N 2 = 0 ∧ rdZ b N 2 = a ∧ L = rdL b N 2 := by
  obtain ⟨q1, q2, q3⟩ := h
  rw [Nat.sub_self] at q1 q2 q3
  refine ⟨q1.symm, q2.symm, ?_⟩
  rw [← q3, rdL]; simp
theorem dpE_rd {b : List UInt8} {x : Int} (h2 : 2 ≤ b.length) (hn : dpN b ≤ 64) (h : rdE b (dpN b) 2 = x) (h0 : x ≠ 0) : dpE b = x := by
  rw [dpE, if_neg (by omega), if_neg (by omega), if_pos (by rw [h]; exact h0), h]
theorem getK_out {b : List UInt8} {a : Nat} {wd : Nat} (h : b.length < a + wd) : getK b (a : Int) (wd : Int) = false := by
  refine (get_none ?_).2
  rintro ⟨-, -, h3⟩
  omega
theorem dpN_get (b : List UInt8) : getN b 0 2 = (dpN b : Int) := by have := (get_any b 0 2).1; unfold dpN; omega
theorem ptK_get (b : List UInt8) (a : Nat) : getN b ((a : Int) + 4) 2 = (ptK b a : Int) := by
  have := (get_any b ((a + 4 : Nat) : Int) 2).1
  unfold ptK
  rw [show ((a + 4 : Nat) : Int) = (a : Int) + 4 by simp] at this ⊢
  omega
theorem getK4 {b : List UInt8} {a : Nat} (h : a + 4 ≤ b.length) : getK b (a : Int) 4 = true := getK_small (b := b) (a := a) (wd := 4) (.inr (.inr rfl)) h
theorem getK2 {b : List UInt8} {a : Nat} (h : a + 6 ≤ b.length) : getK b ((a : Int) + 4) 2 = true := by
  have := getK_small (b := b) (a := a + 4) (wd := 2) (.inr (.inl rfl)) (by omega)
  rwa [show ((a + 4 : Nat) : Int) = (a : Int) + 4 by simp] at this
theorem getK2_out {b : List UInt8} {a : Nat} (h : b.length < a + 6) : getK b ((a : Int) + 4) 2 = false := by
  have := getK_out (b := b) (a := a + 4) (wd := 2) (by omega)
  rwa [show ((a + 4 : Nat) : Int) = (a : Int) + 4 by simp] at this

theorem wrap_smallR {k : Nat} (h : k < 64) : wrap64 ((k : Int) + 1) = (k : Int) + 1 := IntWalk.wrap64_in _ (by omega)
theorem measR {M k : Nat} (h : k < M) : M - (intOf (.int .i64 ((k : Int) + 1))).toNat < M - (intOf (.int .i64 (k : Int))).toNat := by simp [intOf]; omega
theorem measRW {M k : Nat} (h : k < M) (e : wrap64 ((k : Int) + 1) = (k : Int) + 1) : M - (intOf (.int .i64 (wrap64 ((k : Int) + 1)))).toNat < M - (intOf (.int .i64 (k : Int))).toNat := by rw [e]; exact measR h

def FillJ (a f : Nat) (t : Value) : Prop := ∃ j : Nat, j ≤ f ∧ t = .int .i64 ((a + j : Nat) : Int)
def ZerInv (b : List UInt8) (a m : Nat) (t : Value) : Prop := ∃ k : Nat, t = .int .i64 (k : Int) ∧ a ≤ k ∧ k ≤ m ∧ ∀ i, a ≤ i → i < k → b.getD i 0 = 0

/-- What holds at each round over the patches. -/
def DecInv (w wr : World) (b : List UInt8) (N : Nat) (ta tl ti : Value) : Prop := ∃ (i a : Nat) (L : List PT), ti = .int .i64 (i : Int) ∧ ta = .int .i64 (a : Int) ∧ i ≤ N ∧ a ≤ b.length ∧ L.length = i ∧ DecLink b N i a L ∧ OP wr w.heap.size tl L ∧ Grow w wr

theorem rl_decode_early {w : World} {A : Option Addr} {n c : Nat} {b : List UInt8} (hs : Sl w A n b) (h : n < 2 ∨ 64 < dpN b) :
    Calls Try.prog 18 #[.slice A n c] w fun e w' => DecRes w w' b e := by
  have HL := Lib.hid hs.1
  have HN := Lib.hid (dpN_get b)
  have hb := dpN_lt b
  by_cases h2 : n < 2
  · have HE := Lib.hid (show dpE b = 3 by rw [dpE, if_pos (by rw [HL.out]; exact h2)])
    have HK := Lib.hid (show getK b 0 2 = false from getK_out (b := b) (a := 0) (wd := 2) (by rw [HL.out]; omega))
    go_enter Try.func18, Try.ntmps18
    go_wp2_with fail
    refine (rget_s (at_ := 0) (x := 2) hs (by decide) (by decide)).mono ?_
    rintro e w1 ⟨rfl, rfl⟩
    rw [HK.out]
    go_wp2_with fail
    go_ret3
    exact .bad HE.out (by decide) (Grow.refl _)
  · have h64 : 64 < dpN b := by rcases h with h | h; exact absurd h h2; exact h
    have HE := Lib.hid (show dpE b = 2 by rw [dpE, if_neg (by rw [HL.out]; omega), if_pos h64])
    have HK := Lib.hid (show getK b 0 2 = true from getK_small (b := b) (a := 0) (wd := 2) (.inr (.inl rfl)) (by rw [HL.out]; omega))
    obtain ⟨N, hN⟩ : ∃ N, N = dpN b := ⟨_, rfl⟩
    rw [← hN] at h64 HN hb
    have z1 : decide ((64 : Int) < (N : Int)) = true := decide_eq_true (by omega)
    clear h hN
    go_enter Try.func18, Try.ntmps18
    go_wp2_with fail
    refine (rget_s (at_ := 0) (x := 2) hs (by decide) (by decide)).mono ?_
    rintro e w1 ⟨rfl, rfl⟩
    rw [HK.out, HN.out]
    go_wp2_with fail
    go_ret3
    exact .bad HE.out (by decide) (Grow.refl _)

set_option maxHeartbeats 4000000 in
set_option maxRecDepth 8000 in
theorem rl_decode_go {w : World} {A : Option Addr} {n c : Nat} {b : List UInt8} (hs : Sl w A n b) (hc : n ≤ c) (h2 : 2 ≤ n) (h64 : dpN b ≤ 64) :
    Calls Try.prog 18 #[.slice A n c] w fun e w' => DecRes w w' b e := by
  have HL := Lib.hid hs.1
  have HN := Lib.hid (dpN_get b)
  have HK := Lib.hid (show getK b 0 2 = true from getK_small (b := b) (a := 0) (wd := 2) (.inr (.inl rfl)) (by rw [HL.out]; omega))
  have hnb : n ≤ 1073741000 := hs.2.1
  obtain ⟨N, hN⟩ : ∃ N, N = dpN b := ⟨_, rfl⟩
  rw [← hN] at h64 HN
  have HNN := Lib.hid hN
  have HS := Lib.hid hs
  have HRD := Lib.hid (show ∀ x : Int, rdE b N 2 = x → x ≠ 0 → dpE b = x from fun x hx h0 => dpE_rd (by rw [HL.out]; exact h2) (by rw [← hN]; exact h64) (by rw [← hN]; exact hx) h0)
  have z1 : decide ((64 : Int) < (N : Int)) = false := decide_eq_false (by omega)
  obtain ⟨g, o, rfl, hg0, hcell⟩ := hs.all (by omega)
  have HC := Lib.hid (show ∀ k, k < n → w.cell? ⟨g, o + k, none⟩ = some (.int .u8 ((b.getD k 0).toNat : Int)) from fun k hk => by
    rw [hcell k hk, List.getD_eq_getElem?_getD, List.getElem?_eq_getElem (by rw [HL.out]; exact hk)]; rfl)
  clear hN hcell hs
  go_enter Try.func18, Try.ntmps18
  go_wp2_with fail
  refine (rget_s (at_ := 0) (x := 2) HS.out (by decide) (by decide)).mono ?_
  rintro e w1 ⟨rfl, rfl⟩
  rw [HK.out, HN.out]
  go_wp2_with fail
  go_loopw [7, 8, 9] (fun ta tl ti wr => DecInv w wr b N ta tl ti) (fun _ _ ti _ => N - (intOf ti).toNat)
  case atStart => exact ⟨0, 2, [], rfl, rfl, Nat.zero_le _, by rw [HL.out]; exact h2, rfl, DecLink.start _ _, OP.nil _ _, Grow.refl _⟩
  case round =>
    obtain ⟨i, a, L, rfl, rfl, hi, ha, hLi, hlk, hop, hg⟩ := hrel
    rw [HL.out] at ha
    have HLK := Lib.hid hlk
    have HG := Lib.hid hg
    have HOP := Lib.hid hop
    have HLI := Lib.hid hLi
    clear hlk hg hop hLi
    by_cases hlt : i < N
    · go_wp2_with fail
      refine (rget_s (at_ := (a : Int)) (x := 4) (HS.out.keep HG.out) (by omega) (by omega)).mono ?_
      rintro e w' ⟨rfl, rfl⟩
      obtain ⟨x0, X0⟩ : ∃ x, Hid (x = getN b (a : Int) 4) := ⟨_, Lib.hid rfl⟩
      obtain ⟨s0, S0⟩ : ∃ x, Hid (x = getK b (a : Int) 4) := ⟨_, Lib.hid rfl⟩
      rw [← X0.out, ← S0.out]
      go_wp2_with fail
      refine (rget_s (at_ := (a : Int) + 4) (x := 2) (HS.out.keep HG.out) (by omega) (by omega)).mono ?_
      rintro e w' ⟨rfl, rfl⟩
      obtain ⟨s1, S1⟩ : ∃ x, Hid (x = getK b ((a : Int) + 4) 2) := ⟨_, Lib.hid rfl⟩
      obtain ⟨k, K0⟩ : ∃ k, Hid (k = ptK b a) := ⟨_, Lib.hid rfl⟩
      rw [ptK_get, ← K0.out, ← S1.out]
      by_cases h6 : n < a + 6
      · have HE := Lib.hid (HRD.out 3 (HLK.out.short hlt (by rw [HL.out]; exact h6)) (by decide))
        have hs1 : s1 = false := by rw [S1.out]; exact getK2_out (by rw [HL.out]; exact h6)
        subst hs1
        cases s0
        · go_wp2_with fail
          go_ret3
          exact .bad HE.out (by decide) HG.out
        · go_wp2_with fail
          go_ret3
          exact .bad HE.out (by decide) HG.out
      · have hs1 : s1 = true := by rw [S1.out]; exact getK2 (by rw [HL.out]; omega)
        have hs0 : s0 = true := by rw [S0.out]; exact getK4 (by rw [HL.out]; omega)
        subst hs1 hs0
        obtain ⟨a6, e6⟩ : ∃ a6 : Nat, (a : Int) + 6 = (a6 : Int) := ⟨a + 6, by simp⟩
        have ha6 : a6 = a + 6 := by omega
        have hkl := ptK_lt b a
        rw [← K0.out] at hkl
        by_cases hk : 256 < k
        · have HE := Lib.hid (HRD.out 2 (HLK.out.odd hlt (by rw [HL.out]; omega) (by rw [← K0.out]; exact hk)) (by decide))
          have y1 : decide (256 < k) = true := decide_eq_true hk
          have y2 : decide ((256 : Int) < (k : Int)) = true := decide_eq_true (by omega)
          clear e6 ha6
          go_wp2_with fail
          go_ret3
          exact .bad HE.out (by decide) HG.out
        · have y1 : decide (256 < k) = false := decide_eq_false hk
          have y2 : decide ((256 : Int) < (k : Int)) = false := decide_eq_false (by omega)
          by_cases h7 : n < a6 + k
          · have HE := Lib.hid (HRD.out 3 (HLK.out.less hlt (by rw [HL.out]; omega) (by rw [← K0.out]; omega) (by rw [← K0.out, HL.out]; omega)) (by decide))
            have y3 : decide ((n : Int) - (a6 : Int) < (k : Int)) = true := decide_eq_true (by omega)
            clear ha6
            go_wp2_with fail
            go_ret3
            exact .bad HE.out (by decide) HG.out
          · have y3 : decide ((n : Int) - (a6 : Int) < (k : Int)) = false := decide_eq_false (by omega)
            obtain ⟨z, ez⟩ : ∃ z : Nat, (a6 : Int) + (k : Int) = (z : Int) := ⟨a6 + k, by simp⟩
            have hz : z = a6 + k := by omega
            have i1 : a6 ≤ z := by omega
            have i2 : z ≤ c := by omega
            have i3 : z ≤ n := by omega
            have i4 : a6 ≤ c := by omega
            have zk : z - a6 = k := by omega
            have HST := Lib.hid (HLK.out.step hlt (by rw [← K0.out, HL.out]; omega) (by rw [← K0.out]; omega))
            obtain ⟨r, hr⟩ : ∃ r, r = ptAt b a := ⟨_, rfl⟩
            have hr0 : r.pos = x0 := by rw [hr, X0.out]; rfl
            have HX := Lib.hid (show a + 6 + ptK b a = z by rw [← K0.out]; omega)
            rw [HX.out, ← hr] at HST
            have hsd := ((HS.out.keep HG.out).drop (k := a6) (c := c) (by omega) hc).take (k := k) (by omega)
            have hsv : ((b.drop a6).take k).toArray = r.dat.data := by rw [hr, ptAt, K0.out, ha6]
            have HSZ := Lib.hid HG.out.size
            have cv : ∀ c', (convert 24 9 (.slice (if c = a6 then some ⟨g, o, none⟩ else (some (⟨g, o, none⟩ : Addr)).map (·.add a6)) k c')).run Try.prog wr = .ok (.string r.dat) wr := fun c' => by
              have := conv_s (c := c') hsd
              rwa [hsv] at this
            have HLL := Lib.hid (show L.length + 1 ≤ 1000000 by rw [HLI.out]; omega)
            subst hr0
            clear hr hsv hsd ha6 hz
            by_cases hca : c = a6
            · simp only [if_pos hca] at cv
              go_wp2_with (at_builtin; refine wpList_appP1 rfl (.tmp 61) (.tmp 71) rfl w.heap.size _ L rfl r (by first | rfl | simp) HOP.out HLL.out HSZ.out ?_; intro v2 w2 q1 q2)
              have X : DecInv w w2 b N (.int .i64 (z : Int)) v2 (.int .i64 ((i : Int) + 1)) := ⟨i + 1, z, L ++ [r], by simp, rfl, hlt, by rw [HL.out]; exact i3, by simp [HLI.out], HST.out, q1, HG.out.low q2⟩
              have e5 := wrap_smallR (show i < 64 by omega)
              clear q1 q2 cv ez e6
              try rw [← hca]
              clear hca
              go_roundw
              case rel => (try rw [e5]); first | exact X | ((repeat apply Exists.intro); exact X) | ((repeat apply Exists.intro); refine ⟨X, ?_⟩; rfl)
              case measure => first | exact measR hlt | exact measRW hlt e5
            · simp only [if_neg hca, Option.map_some, Addr.add_lit] at cv
              go_wp2_with (at_builtin; refine wpList_appP1 rfl (.tmp 61) (.tmp 71) rfl w.heap.size _ L rfl r (by first | rfl | simp) HOP.out HLL.out HSZ.out ?_; intro v2 w2 q1 q2)
              have X : DecInv w w2 b N (.int .i64 (z : Int)) v2 (.int .i64 ((i : Int) + 1)) := ⟨i + 1, z, L ++ [r], by simp, rfl, hlt, by rw [HL.out]; exact i3, by simp [HLI.out], HST.out, q1, HG.out.low q2⟩
              have e5 := wrap_smallR (show i < 64 by omega)
              clear q1 q2 cv ez e6
              try rw [← hca]
              clear hca
              go_roundw
              case rel => (try rw [e5]); first | exact X | ((repeat apply Exists.intro); exact X) | ((repeat apply Exists.intro); refine ⟨X, ?_⟩; rfl)
              case measure => first | exact measR hlt | exact measRW hlt e5
    · obtain rfl : i = N := by omega
      obtain ⟨d1, d2, d3⟩ := HLK.out.done
      have HRE := Lib.hid d1
      have HZ := Lib.hid (show dpZ b = a by rw [dpZ, ← HNN.out]; exact d2)
      have HLR := Lib.hid (show L = rdL b (dpN b) 2 by rw [← HNN.out]; exact d3)
      have HE0 := Lib.hid (show dpE b = if b.length < a + 4 then 3 else if getN b (a : Int) 4 ≠ (crcN (b.take a) : Nat) then 4 else if b.length < dpF b then 3 else if zerosB b (a + 4) (dpF b) = true then 0 else 2 by
        rw [dpE, if_neg (by rw [HL.out]; omega), if_neg (by rw [← HNN.out]; omega), if_neg (by rw [← HNN.out, HRE.out]; simp), HZ.out])
      have HFF := Lib.hid (show dpF b = a + 4 + fillN (a + 4) by rw [dpF, HZ.out])
      clear d1 d2 d3
      go_wp2_with fail
      refine (rget_s (at_ := (a : Int)) (x := 4) (HS.out.keep HG.out) (by omega) (by omega)).mono ?_
      rintro e w' ⟨rfl, rfl⟩
      obtain ⟨x0, X0⟩ : ∃ x, Hid (x = getN b (a : Int) 4) := ⟨_, Lib.hid rfl⟩
      rw [← X0.out]
      by_cases h4 : n < a + 4
      · have HKK := Lib.hid (show getK b (a : Int) 4 = false from getK_out (wd := 4) (by rw [HL.out]; exact h4))
        have HE := Lib.hid (show dpE b = 3 by rw [HE0.out, if_pos (by rw [HL.out]; exact h4)])
        rw [HKK.out]
        go_wp2_with fail
        go_ret3
        exact .bad HE.out (by decide) HG.out
      · have HKK := Lib.hid (show getK b (a : Int) 4 = true from getK4 (by rw [HL.out]; omega))
        rw [HKK.out]
        have HE1 := Lib.hid (show dpE b = if getN b (a : Int) 4 ≠ (crcN (b.take a) : Nat) then 4 else if b.length < dpF b then 3 else if zerosB b (a + 4) (dpF b) = true then 0 else 2 by rw [HE0.out, if_neg (by rw [HL.out]; exact h4)])
        have i1 : a ≤ c := by omega
        clear HE0 HKK
        go_wp2_with fail
        refine (rsum_s ((HS.out.keep HG.out).take (k := a) (by omega))).mono ?_
        rintro e w3 ⟨q, rfl, hq, hq1, rfl⟩
        by_cases hsum : x0 = (q : Int)
        · have hne : (x0 != (q : Int)) = false := by rw [bne_eq_false_iff_eq]; exact hsum
          have HE2 := Lib.hid (show dpE b = if b.length < dpF b then 3 else if zerosB b (a + 4) (dpF b) = true then 0 else 2 by rw [HE1.out, if_neg (by rw [← X0.out, hsum, hq.out]; simp)])
          have HNE := Lib.hid hne
          clear hsum hq HE1
          obtain ⟨f, hf⟩ : ∃ f, f = fillN (a + 4) := ⟨_, rfl⟩
          have hf8 : f < 8 ∧ (a + 4 + f) % 8 = 0 ∧ ∀ j, j < f → (a + 4 + j) % 8 ≠ 0 := by
            rw [hf, fillN]
            refine ⟨by omega, by omega, ?_⟩
            intro j hj
            omega
          obtain ⟨a4, e4⟩ : ∃ a4 : Nat, (a : Int) + 4 = (a4 : Int) := ⟨a + 4, by simp⟩
          have ha4 : a + 4 = a4 := by omega
          rw [ha4] at hf8 HE2 HFF hf
          rw [← hf] at HFF
          have HF8 := Lib.hid hf8
          have HA4 := Lib.hid ha4
          have ha4n : a4 ≤ n := by omega
          clear hf hf8 ha4 h4
          go_wp2_with fail
          clear e4
          go_loopw [16] (fun t wr' => FillJ a4 f t ∧ wr' = wr) (fun t _ => a4 + f - (intOf t).toNat)
          case atStart => exact ⟨⟨0, Nat.zero_le _, rfl⟩, rfl⟩
          case round =>
            obtain ⟨⟨j, hj, rfl⟩, rfl⟩ := hrel
            obtain ⟨M, hM⟩ : ∃ M, M = a4 + j := ⟨_, rfl⟩
            rw [← hM]
            have hMb : M ≤ 1073741100 := by have := HF8.out.1; omega
            by_cases hjf : j < f
            · have hne := HF8.out.2.2 j hjf
              rw [← hM] at hne
              have hne1 : ((M : Int) % 8 != 0) = true := by simp; omega
              have X : FillJ a4 f (.int .i64 ((M : Int) + 1)) ∧ wr = wr := ⟨⟨j + 1, hjf, by rw [hM]; simp [Int.add_assoc]⟩, rfl⟩
              have HX := Lib.hid X
              have hms : a4 + f - (intOf (.int .i64 ((M : Int) + 1))).toNat < a4 + f - (intOf (.int .i64 (M : Int))).toNat := by simp [intOf]; omega
              have HMS := Lib.hid hms
              clear hne X hms hM
              go_wp2_with fail
              go_roundw
              case rel => first | exact HX.out | exact ⟨HX.out.1, trivial⟩ | exact HX.out.1
              case measure => exact HMS.out
            · obtain rfl : j = f := by omega
              have hne := HF8.out.2.1
              rw [← hM] at hne
              have hne1 : ((M : Int) % 8 != 0) = false := by simp; omega
              rw [← hM] at HFF
              have hMa : a4 ≤ M := by omega
              clear hne hM hjf hj
              by_cases hnM : n < M
              · have HE := Lib.hid (show dpE b = 3 by rw [HE2.out, if_pos (by rw [HL.out, HFF.out]; exact hnM)])
                have y1 : decide (n < M) = true := decide_eq_true hnM
                have y2 : decide ((n : Int) < (M : Int)) = true := decide_eq_true (by omega)
                go_wp2_with fail
                go_ret3
                exact .bad HE.out (by decide) HG.out
              · have HE3 := Lib.hid (show dpE b = if zerosB b a4 M = true then 0 else 2 by rw [HE2.out, if_neg (by rw [HL.out, HFF.out]; exact hnM), HFF.out])
                have y1 : decide (n < M) = false := decide_eq_false hnM
                have y2 : decide ((n : Int) < (M : Int)) = false := decide_eq_false (by omega)
                clear HE2
                go_wp2_with fail
                go_loopw [17] (fun t wr' => ZerInv b a4 M t ∧ wr' = wr) (fun t _ => M - (intOf t).toNat)
                case atStart => exact ⟨⟨a4, rfl, Nat.le_refl _, hMa, fun i h1 h2 => by omega⟩, rfl⟩
                case round =>
                  obtain ⟨⟨k, rfl, hk1, hk2, hz⟩, rfl⟩ := hrel
                  have HZZ := Lib.hid hz
                  clear hz
                  by_cases hkM : k < M
                  · have hc := HG.out.cell (HC.out k (by omega))
                    obtain ⟨u, hu⟩ : ∃ u : Int, u = ((b.getD k 0).toNat : Int) := ⟨_, rfl⟩
                    rw [← hu] at hc
                    have HU := Lib.hid hu
                    have z5 : decide ((k : Int) < (M : Int)) = true := decide_eq_true (by omega)
                    have hkn : k < n := by omega
                    clear hu
                    by_cases h0 : u = 0
                    · have h0' : (u != 0) = false := by rw [bne_eq_false_iff_eq]; exact h0
                      have X : ZerInv b a4 M (.int .i64 ((k : Int) + 1)) := ⟨k + 1, by simp, by omega, hkM, fun i h1 h2 => by
                        by_cases e : i = k
                        · subst e
                          apply UInt8.toNat_inj.1
                          have := HU.out
                          rw [h0] at this
                          simp at this ⊢
                          omega
                        · exact HZZ.out i h1 (by omega)⟩
                      have HX := Lib.hid X
                      have HMS := Lib.hid (show M - (intOf (.int .i64 ((k : Int) + 1))).toNat < M - (intOf (.int .i64 (k : Int))).toNat from measR hkM)
                      have HU0 := Lib.hid h0
                      clear X h0
                      go_wp2_with fail
                      go_roundw
                      case rel => first | exact ⟨HX.out, rfl⟩ | exact ⟨HX.out, trivial⟩ | exact HX.out
                      case measure => exact HMS.out
                    · have h0' : (u != 0) = true := by rw [bne_iff_ne]; exact h0
                      have HE := Lib.hid (show dpE b = 2 by
                        rw [HE3.out, if_neg]
                        intro q
                        rw [zeros_iff (by rw [HL.out]; omega)] at q
                        have := q k hk1 hkM
                        apply h0
                        rw [HU.out, List.getD_eq_getElem?_getD, List.getElem?_eq_getElem (by rw [HL.out]; exact hkn)]
                        simp [this])
                      clear h0
                      go_wp2_with fail
                      go_ret3
                      exact .bad HE.out (by decide) HG.out
                  · obtain rfl : k = M := by omega
                    have HE := Lib.hid (show dpE b = 0 by
                      rw [HE3.out, if_pos]
                      rw [zeros_iff (by rw [HL.out]; omega)]
                      intro i h1 h2
                      have := HZZ.out i h1 h2
                      rw [List.getD_eq_getElem?_getD, List.getElem?_eq_getElem (by rw [HL.out]; omega)] at this
                      simpa using this)
                    have z5 : decide ((k : Int) < (k : Int)) = false := decide_eq_false (by omega)
                    go_wp2_with fail
                    go_ret3
                    refine ⟨_, ?_, (by rw [dpL, if_pos HE.out, ← HLR.out]; exact HOP.out), HG.out⟩
                    rw [HE.out, dpU, if_pos HE.out, HFF.out]; rfl
        · have hne : (x0 != (q : Int)) = true := by rw [bne_iff_ne]; exact hsum
          have HE := Lib.hid (show dpE b = 4 by rw [HE1.out, if_pos (by rw [← X0.out, ← hq.out]; exact hsum)])
          clear hsum
          go_wp2_with fail
          go_ret3
          exact .bad HE.out (by decide) HG.out

theorem rl_decode {w : World} {A : Option Addr} {n c : Nat} {b : List UInt8} (hs : Sl w A n b) (hc : n ≤ c) :
    Calls Try.prog 18 #[.slice A n c] w fun e w' => DecRes w w' b e := by
  by_cases h : n < 2 ∨ 64 < dpN b
  · exact rl_decode_early hs h
  · exact rl_decode_go hs hc (by omega) (by omega)
end Go.Proofs.Ytncjfljmnkfghaa
