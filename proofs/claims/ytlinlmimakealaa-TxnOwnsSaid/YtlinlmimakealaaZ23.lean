/- The walk of the statement TxnPlays. No statement of the seat is proved here. -/
import Derived.Test.YtlinlmimakealaaZ21
import Derived.Test.YtlinlmimakealaaZ22
import Derived.Deep.CutBlock
import Derived.Deep.DeepCutAuto
namespace Go.Proofs.Ytlinlmimakealaa
open Go.RowKit

/-- The pair at pb, both sides alike; what was there at W is as it was. -/
def Pair9 (W w : World) (pb l t dl d px : Nat) (y : MB) : Prop := ∃ (x : MB) (s : MS) (L : List PT) (v v' : Value), x.p = px ∧ PY w W.heap.size pb l t dl d x y s L v v' ∧ Grow W w
theorem deed9_step {W w : World} {pb l t dl d px : Nat} {y : MB} (h : Pair9 W w pb l t dl d px y) {e : Dd} (he : e.ok W) :
    Calls Try.prog 24 #[.pointer (some ⟨pb, 0, none⟩), .agg #[.int .i64 e.k, .int .i64 e.a, .int .i64 e.n, .slice e.B e.bs.length e.c, .slice e.Q e.pk.length e.d]] w fun r w' => r = .returned (.bool true) ∧ Pair9 W w' pb l t dl d px y := by
  obtain ⟨x, s, L, v, v', rfl, hp, G⟩ := h
  refine (does9 hp G.size (he.da G hp.lb) e.k).mono ?_
  rintro r w' ⟨rfl, s', L', x', v1, v2, hx, hp', ht, -⟩
  exact ⟨rfl, x', s', L', v1, v2, hx, hp', G.low (ht.low hp.lb G.size)⟩
theorem like9_step {W w : World} {pb l t dl d px : Nat} {y : MB} (h : Pair9 W w pb l t dl d px y) :
    Calls Try.prog 27 #[.pointer (some ⟨pb, 0, none⟩)] w fun r w' => r = .returned (.bool true) ∧ Pair9 W w' pb l t dl d px y := by
  obtain ⟨x, s, L, v, v', rfl, hp, G⟩ := h
  refine (like9 hp).mono ?_
  rintro r w' ⟨rfl, g⟩
  exact ⟨rfl, x, s, L, v, v', rfl, hp.keep g, G.trans g⟩
def PlayInv9 (W w : World) (pb l t dl d px : Nat) (y : MB) (n k : Nat) (v : Value) : Prop := ∃ i : Nat, v = .int .i64 (i : Int) ∧ i ≤ n ∧ i ≤ k ∧ Pair9 W w pb l t dl d px y

set_option maxHeartbeats 8000000 in
set_option maxRecDepth 8000 in
theorem law_TxnPlays (A0 : Option Addr) (n c : Nat) (LD : List Dd) (W : World) (hr : RD W A0 n LD) :
    Calls Try.prog 6 #[.slice A0 n c] W fun e w' => e = .returned (.bool true) ∧ Below W.heap.size W w' := by
  have HR := Lib.hid hr
  clear hr
  go_enter Try.func6, Try.ntmps6
  go_wp2_with fail
  refine (begin9 W).mono ?_
  rintro e w1 ⟨pb, l, t, dl, d, x, y, rfl, hp, -, -, -, g1⟩
  have HBO := Lib.hid (show Pair9 W w1 pb l t dl d x.p y from ⟨x, fresh, [], _, _, rfl, hp, g1⟩)
  obtain ⟨px, hpx⟩ : ∃ px, px = x.p := ⟨_, rfl⟩
  rw [← hpx] at HBO
  clear hp g1 hpx
  go_upto_block 0 with fail
  go_cut [4] (fun i wx => (∃ k : Int, i = .int .i64 k) ∧ Grow W wx)
  case first =>
    go_wp2_with fail
    go_loopw [4] (fun u wr => PlayInv9 W wr pb l t dl d px y n 15 u) (fun u _ => 15 - (intOf u).toNat)
    case atStart => exact ⟨0, rfl, Nat.zero_le _, Nat.zero_le _, HBO.out⟩
    case round =>
      obtain ⟨i, rfl, hi, hi2, hbo⟩ := hrel
      have HB := Lib.hid hbo
      have HG := Lib.hid (show Grow W wr by obtain ⟨_, _, _, _, _, _, _, g⟩ := hbo; exact g)
      clear hbo
      by_cases hlt : i < n
      · by_cases hlt2 : i < 15
        · obtain ⟨b, o, e0, rfl, hb, hok, c0, c1, c2, c3, c4⟩ := HR.out.at_ hlt
          replace c0 := HG.out.cell c0; replace c1 := HG.out.cell c1; replace c2 := HG.out.cell c2; replace c3 := HG.out.cell c3; replace c4 := HG.out.cell c4
          have HOK := Lib.hid hok
          clear hok
          go_wp2_with fail
          refine (deed9_step HB.out HOK.out).mono ?_
          rintro r w3 ⟨rfl, hb3⟩
          have HB3 := Lib.hid hb3
          clear c0 c1 c2 c3 c4 hb3
          go_wp2_with fail
          refine (like9_step HB3.out).mono ?_
          rintro r w4 ⟨rfl, hb4⟩
          have X : PlayInv9 W w4 pb l t dl d px y n 15 (.int .i64 ((i : Int) + 1)) := ⟨i + 1, by simp, hlt, hlt2, hb4⟩
          clear hb4
          go_wp2_with fail
          go_roundw
          case rel => first | exact X | ((repeat apply Exists.intro); exact X) | ((repeat apply Exists.intro); refine ⟨X, ?_⟩; rfl)
          case measure => first | exact meas hlt2 | (simp [intOf]; omega)
        · go_wp2_with fail
          go_meet
          exact ⟨⟨_, rfl⟩, HG.out⟩
      · go_wp2_with fail
        go_meet
        exact ⟨⟨_, rfl⟩, HG.out⟩
  case rest =>
    obtain ⟨⟨k, rfl⟩, hg⟩ := hcut
    have HG := Lib.hid hg
    clear hg
    go_wp2_with fail
    refine (lives9 _).mono ?_
    rintro e w4 ⟨rfl, g4⟩
    have GG := Lib.hid (HG.out.trans g4)
    clear g4
    go_wp2_with fail
    go_ret
    exact ⟨rfl, GG.out⟩
end Go.Proofs.Ytlinlmimakealaa
