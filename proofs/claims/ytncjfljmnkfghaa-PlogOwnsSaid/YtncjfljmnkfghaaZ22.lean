/- The walk of the statement PlogPlays. No statement of the seat is proved here. -/
import Derived.Test.YtncjfljmnkfghaaZ20
import Derived.Test.YtncjfljmnkfghaaZ21
import Derived.Deep.CutBlock
import Derived.Deep.DeepCutAuto
namespace Go.Proofs.Ytncjfljmnkfghaa
open Go.RowKit

/-- The pair at pb, both sides alike; what was there at W is as it was. -/
def Pairs (W w : World) (pb l d px : Nat) (y : MB) : Prop := ∃ (x : MB) (s : MS), x.p = px ∧ PX w W.heap.size pb l d x y s ∧ Grow W w
theorem Pairs.keep {W w w' : World} {pb l d px : Nat} {y : MB} (h : Pairs W w pb l d px y) (g : Grow w w') : Pairs W w' pb l d px y := by
  obtain ⟨x, s, h1, h2, h3⟩ := h
  exact ⟨x, s, h1, h2.keep g, h3.trans g⟩
theorem deed8_step {W w : World} {pb l d px : Nat} {y : MB} (h : Pairs W w pb l d px y) {e : D8} (he : e.ok W) :
    Calls Try.prog 34 #[.pointer (some ⟨pb, 0, none⟩), .agg #[.int .i64 e.k, .slice e.P e.L.length e.cp, .int .i64 e.a, .slice e.B e.bs.length e.c, .slice e.Q e.pk.length e.d]] w fun r w' => r = .returned (.bool true) ∧ Pairs W w' pb l d px y := by
  obtain ⟨x, s, rfl, hp, G⟩ := h
  refine (does8 hp G.size (he.da G) e.k).mono ?_
  rintro r w' ⟨rfl, x', s', hx, hp', hb, hz⟩
  exact ⟨rfl, x', s', hx, hp', G.low hb⟩
theorem like8_step {W w : World} {pb l d px : Nat} {y : MB} (h : Pairs W w pb l d px y) :
    Calls Try.prog 28 #[.pointer (some ⟨pb, 0, none⟩)] w fun r w' => r = .returned (.bool true) ∧ Pairs W w' pb l d px y := by
  obtain ⟨x, s, rfl, hp, G⟩ := h
  refine (like8 hp).mono ?_
  rintro r w' ⟨rfl, g⟩
  exact ⟨rfl, x, s, rfl, hp.keep g, G.trans g⟩
def PlayInv8 (W w : World) (pb l d px : Nat) (y : MB) (n t : Nat) (v : Value) : Prop := ∃ i : Nat, v = .int .i64 (i : Int) ∧ i ≤ n ∧ i ≤ t ∧ Pairs W w pb l d px y

set_option maxHeartbeats 8000000 in
set_option maxRecDepth 8000 in
theorem law_PlogPlays (A0 : Option Addr) (n c : Nat) (LD : List D8) (W : World) (hr : RD8 W A0 n LD) :
    Calls Try.prog 9 #[.slice A0 n c] W fun e w' => e = .returned (.bool true) ∧ Below W.heap.size W w' := by
  have HR := Lib.hid hr
  clear hr
  go_enter Try.func9, Try.ntmps9
  go_wp2_with fail
  refine (begin8 W).mono ?_
  rintro e w1 ⟨pb, l, d, x, y, rfl, hp, -, -, -, g1⟩
  have HBO := Lib.hid (show Pairs W w1 pb l d x.p y from ⟨x, fresh, rfl, hp, g1⟩)
  obtain ⟨px, hpx⟩ : ∃ px, px = x.p := ⟨_, rfl⟩
  rw [← hpx] at HBO
  clear hp g1 hpx
  go_upto_block 0 with fail
  go_cut [4] (fun i wx => (∃ k : Int, i = .int .i64 k) ∧ Grow W wx)
  case first =>
    go_wp2_with fail
    go_loopw [4] (fun t wr => PlayInv8 W wr pb l d px y n 15 t) (fun t _ => 15 - (intOf t).toNat)
    case atStart => exact ⟨0, rfl, Nat.zero_le _, Nat.zero_le _, HBO.out⟩
    case round =>
      obtain ⟨i, rfl, hi, hi2, hbo⟩ := hrel
      have HB := Lib.hid hbo
      have HG := Lib.hid (show Grow W wr by obtain ⟨_, _, _, _, g⟩ := hbo; exact g)
      clear hbo
      by_cases hlt : i < n
      · by_cases hlt2 : i < 15
        · obtain ⟨b, o, e0, rfl, hb, hok, c0, c1, c2, c3, c4⟩ := HR.out.at_ hlt
          replace c0 := HG.out.cell c0; replace c1 := HG.out.cell c1; replace c2 := HG.out.cell c2; replace c3 := HG.out.cell c3; replace c4 := HG.out.cell c4
          have HOK := Lib.hid hok
          clear hok
          go_wp2_with fail
          refine (deed8_step HB.out HOK.out).mono ?_
          rintro r w3 ⟨rfl, hb3⟩
          have HB3 := Lib.hid hb3
          clear c0 c1 c2 c3 c4 hb3
          go_wp2_with fail
          refine (like8_step HB3.out).mono ?_
          rintro r w4 ⟨rfl, hb4⟩
          have X : PlayInv8 W w4 pb l d px y n 15 (.int .i64 ((i : Int) + 1)) := ⟨i + 1, by simp, hlt, hlt2, hb4⟩
          clear hb4
          go_wp2_with fail
          go_roundw
          case rel => first | exact X | ((repeat apply Exists.intro); exact X) | ((repeat apply Exists.intro); refine ⟨X, ?_⟩; rfl)
          case measure => first | exact meas hlt2 | (simp [intOf]; omega)
        · go_wp2_with fail
          go_meet
          exact ⟨⟨_, rfl⟩, HG.out⟩
      · go_wp2_with fail
        go_meet
        exact ⟨⟨_, rfl⟩, HG.out⟩
  case rest =>
    obtain ⟨⟨k, rfl⟩, hg⟩ := hcut
    have HG := Lib.hid hg
    clear hg
    go_wp2_with fail
    refine (lives8 _).mono ?_
    rintro e w4 ⟨rfl, g4⟩
    have GG := Lib.hid (HG.out.trans g4)
    clear g4
    go_wp2_with fail
    go_ret
    exact ⟨rfl, GG.out⟩
end Go.Proofs.Ytncjfljmnkfghaa
