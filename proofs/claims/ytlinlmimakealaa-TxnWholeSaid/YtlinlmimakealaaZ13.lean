/- plog.Decode. pmem: Fence, deferred. Rows of noughts that a call makes. plog: keep, End, Clear. No statement of the seat is proved here. -/
import Derived.Test.YtlinlmimakealaaZ12
import Derived.Deep.DeepCutAuto
import Derived.Deep.CutBlock
import Derived.Test.YtlinlmimakealaaZ05
import Derived.Defers
import Derived.Test.YtlinlmimakealaaZ01
import Derived.Test.YtlinlmimakealaaZ08
import Derived.Deep.RegionWith
import Derived.Deep.RegionHeld3
namespace Go.Proofs.Ytlinlmimakealaa
open Go.RowKit

theorem Row.turn {F : Nat → Prop} {w w' : World} {g : Nat} {vs : List Value} (h : Row w g vs) (t : Turn F w w') (hF : ¬ F g) : Row w' g vs :=
  ⟨⟨Nat.lt_of_lt_of_le h.1.1 t.size, fun j v hv => (t.cell (p := ⟨g, j, none⟩) h.1.1 hF).trans (h.1.2 j v hv)⟩, fun j hj => (t.frozen (p := ⟨g, j, none⟩) h.1.1 hF).trans (h.2 j hj)⟩
theorem Sl.turn' {F : Nat → Prop} {w w' : World} {A : Option Addr} {n : Nat} {bs : List UInt8} (h : Sl w A n bs) (t : Turn F w w') (hA : 0 < n → ∀ p, A = some p → ¬ F p.block) : Sl w' A n bs := by
  obtain ⟨h1, h2, h3, h4⟩ := h
  refine ⟨h1, h2, h3, fun hn => ?_⟩
  obtain ⟨b, o, e, hb, hc⟩ := h4 hn
  exact ⟨b, o, e, Nat.lt_of_lt_of_le hb t.size, fun j u hu => (t.cell (p := ⟨b, o + j, none⟩) hb (hA (by omega) ⟨b, o, none⟩ e)).trans (hc j u hu)⟩

/-- What 'next' has captured: the bytes, the place, whether they end too soon. -/
structure NX (w : World) (gb ga gs : Nat) (A : Option Addr) (n c : Nat) (bs : List UInt8) (a : Int) (sh : Bool) : Prop where
  b : Row w gb [.slice A n c]
  at_ : Row w ga [.int .i64 a]
  short : Row w gs [.bool sh]
  bytes : Sl w A n bs
theorem NX.keep {w w' : World} {gb ga gs n c : Nat} {A : Option Addr} {bs : List UInt8} {a : Int} {sh : Bool} (h : NX w gb ga gs A n c bs a sh) (g : Grow w w') : NX w' gb ga gs A n c bs a sh := ⟨h.b.keep g, h.at_.keep g, h.short.keep g, h.bytes.keep g⟩

set_option maxHeartbeats 2000000 in
theorem pl_next {w : World} {gb ga gs n c : Nat} {A : Option Addr} {bs : List UInt8} {a : Int} {sh : Bool} (h : NX w gb ga gs A n c bs a sh) (h1 : gb ≠ ga) (h2 : gb ≠ gs) (h3 : ga ≠ gs) (hA : 0 < n → ∀ p, A = some p → p.block ≠ ga ∧ p.block ≠ gs) (wd : Int) (ha : 0 ≤ a ∧ a ≤ 2000000000) (hw : 0 ≤ wd ∧ wd ≤ 8) :
    Calls Try.prog 75 #[.int .i64 wd, .pointer (some ⟨gb, 0, none⟩), .pointer (some ⟨ga, 0, none⟩), .pointer (some ⟨gs, 0, none⟩)] w fun e w' =>
      e = .returned (.int .i64 (getN bs a wd)) ∧ NX w' gb ga gs A n c bs (a + wd) (sh || !getK bs a wd) ∧ Turn (fun k => k = ga ∨ k = gs) w w' := by
  have cb := h.b.1.c1
  have ca := h.at_.1.c1
  have cs := h.short.1.c1
  have fa := h.at_.2 0 (by simp)
  have fs := h.short.2 0 (by simp)
  have H := Lib.hid h
  obtain ⟨x0, X0⟩ : ∃ x, Hid (x = getN bs a wd) := ⟨_, Lib.hid rfl⟩
  have HA := Lib.hid hA
  have HNE := Lib.hid (And.intro h1 (And.intro h2 h3))
  clear h hA
  have X : ∀ k, Hid (k = getK bs a wd) → NX ((w.setCell ⟨gs, 0, none⟩ (.bool (sh || !k))).setCell ⟨ga, 0, none⟩ (.int .i64 (a + wd))) gb ga gs A n c bs (a + wd) (sh || !getK bs a wd) ∧ Turn (fun k => k = ga ∨ k = gs) w ((w.setCell ⟨gs, 0, none⟩ (.bool (sh || !k))).setCell ⟨ga, 0, none⟩ (.int .i64 (a + wd))) := by
    intro k hk
    rw [hk.out]
    obtain ⟨h1, h2, h3⟩ := HNE.out
    have t : Turn (fun k => k = ga ∨ k = gs) w ((w.setCell ⟨gs, 0, none⟩ (.bool (sh || !getK bs a wd))).setCell ⟨ga, 0, none⟩ (.int .i64 (a + wd))) := (Turn.setCell _ (.inr rfl) _).and (Turn.setCell _ (.inl rfl) _)
    refine ⟨⟨H.out.b.turn t (by rintro (q | q); exact h1 q; exact h2 q), ?_, ?_, H.out.bytes.turn' t fun h0 p hp q => ?_⟩, t⟩
    · have := ((H.out.at_.set_ne (p := ⟨gs, 0, none⟩) (v := .bool (sh || !getK bs a wd)) (fun q => h3 q.symm)).set (j := 0) (v := .int .i64 (a + wd)) (by simp))
      simpa using this
    · have := ((H.out.short.set (j := 0) (v := .bool (sh || !getK bs a wd)) (by simp)).set_ne (p := ⟨ga, 0, none⟩) (v := .int .i64 (a + wd)) h3)
      simpa using this
    · have := HA.out h0 p hp; rcases q with q | q; exact this.1 q; exact this.2 q
  have HX := Lib.hid X
  clear X h1 h2
  go_enter Try.func75, Try.ntmps75
  go_wp2_with fail
  refine (get_s H.out.bytes (by omega) (by omega)).mono ?_
  rintro e w' ⟨rfl, rfl⟩
  rw [← X0.out]
  obtain ⟨k, K0⟩ : ∃ k, Hid (k = getK bs a wd) := ⟨_, Lib.hid rfl⟩
  rw [← K0.out]
  have Y := HX.out k K0
  have HY := Lib.hid Y
  clear Y HX
  cases sh <;> cases k
  all_goals
    go_wp2_with fail
    go_ret
    exact ⟨ret_int X0.out, HY.out⟩
theorem NX.turn {F : Nat → Prop} {w w' : World} {gb ga gs n c : Nat} {A : Option Addr} {bs : List UInt8} {a : Int} {sh : Bool} (h : NX w gb ga gs A n c bs a sh) (t : Turn F w w') (h1 : ¬ F gb) (h2 : ¬ F ga) (h3 : ¬ F gs) (hA : 0 < n → ∀ p, A = some p → ¬ F p.block) : NX w' gb ga gs A n c bs a sh :=
  ⟨h.b.turn t h1, h.at_.turn t h2, h.short.turn t h3, h.bytes.turn' t hA⟩
def ZerInv2 (b : List UInt8) (a m : Nat) (t : Value) : Prop := ∃ k : Nat, t = .int .i64 (k : Int) ∧ k ≤ m ∧ ∀ i, i < k → b.getD (a + i) 0 = 0
/-- What holds at each round over the patches. -/
def DecInv2 (w wr : World) (base gb ga gs : Nat) (A : Option Addr) (n c : Nat) (b : List UInt8) (N : Nat) (tl ti : Value) : Prop :=
  ∃ (i : Nat) (a : Int) (sh : Bool), ti = .int .i64 (i : Int) ∧ NX wr gb ga gs A n c b a sh ∧ Grow w wr ∧ base ≤ wr.heap.size ∧ i ≤ N ∧
    ((sh = false ∧ ∃ (a' : Nat) (L : List PT), a = (a' : Int) ∧ a' ≤ b.length ∧ L.length = i ∧ DecLink b N i a' L ∧ OP wr base tl L) ∨ (sh = true ∧ dpE b = 3 ∧ 0 ≤ a ∧ a ≤ 1500000000))

set_option maxHeartbeats 8000000 in
set_option maxRecDepth 8000 in
theorem pl_decode {w : World} {A : Option Addr} {n c : Nat} {b : List UInt8} (hs : Sl w A n b) (hc : n ≤ c) :
    Calls Try.prog 66 #[.slice A n c] w fun e w' => DecRes w w' b e := by
  have HL := Lib.hid hs.1
  have HN := Lib.hid (dpN_get b)
  have hnb : n ≤ 1073741000 := hs.2.1
  have HS := Lib.hid hs
  have HAB := Lib.hid (show 0 < n → ∀ p, A = some p → p.block < w.heap.size from fun h0 p hp => by
    obtain ⟨g, o, e, hg, -⟩ := hs.all h0
    rw [e] at hp
    injection hp with hp
    subst hp
    exact hg)
  have hmf : ∀ (fn : Fn) (first cap : Array Value) (w : World), (Instr.makeFunc fn first cap).run Try.prog w = .ok (.func fn first cap) w := fun _ _ _ _ => rfl
  clear hs
  go_enter Try.func66, Try.ntmps66
  go_upto_region 4 with (fail)
  obtain ⟨gs, hgs⟩ : ∃ gs, gs = w.heap.size + 1 + 1 := ⟨_, rfl⟩
  obtain ⟨ga, hga⟩ : ∃ ga, ga = w.heap.size + 1 := ⟨_, rfl⟩
  obtain ⟨gb, hgb⟩ : ∃ gb, gb = w.heap.size := ⟨_, rfl⟩
  obtain ⟨w3, hw3⟩ : ∃ w3, w3 = (((w.alloc (.cells #[.slice A n c] 22)).alloc (.cells #[.int .i64 0] 3)).alloc (.cells #[.bool false] 4)) := ⟨_, rfl⟩
  have G3 : Grow w w3 := by rw [hw3]; exact (((Grow.refl w).alloc _).alloc _).alloc _
  have hsz3 : w3.heap.size = w.heap.size + 3 := by rw [hw3]; simp
  have NX3 : NX w3 gb ga gs A n c b 0 false := by
    have r1 := Row.new w 22 [.slice A n c] _ rfl
    have r2 := Row.new (w.alloc (.cells #[.slice A n c] 22)) 3 [.int .i64 0] _ rfl
    have r3 := Row.new ((w.alloc (.cells #[.slice A n c] 22)).alloc (.cells #[.int .i64 0] 3)) 4 [.bool false] _ rfl
    rw [show (w.alloc (.cells #[.slice A n c] 22)).heap.size = w.heap.size + 1 by simp, ← hga] at r2
    rw [show ((w.alloc (.cells #[.slice A n c] 22)).alloc (.cells #[.int .i64 0] 3)).heap.size = w.heap.size + 1 + 1 by simp, ← hgs, ← hw3] at r3
    rw [← hgb] at r1
    exact ⟨by rw [hw3]; exact r1.keep (((Grow.refl _).alloc _).alloc _), by rw [hw3]; exact r2.keep ((Grow.refl _).alloc _), r3, HS.out.keep G3⟩
  rw [← hw3, ← hgs, ← hga, ← hgb]
  have HNE := Lib.hid (show gb ≠ ga ∧ gb ≠ gs ∧ ga ≠ gs by omega)
  obtain ⟨base, hbase⟩ : ∃ base, base = w3.heap.size := ⟨_, rfl⟩
  have HBB := Lib.hid (show gb < base ∧ ga < base ∧ gs < base ∧ w.heap.size ≤ gb ∧ w.heap.size ≤ ga ∧ w.heap.size ≤ gs ∧ w.heap.size ≤ base by omega)
  have HAA := Lib.hid (show 0 < n → ∀ p, A = some p → p.block ≠ ga ∧ p.block ≠ gs from fun h0 p hp => by have := HAB.out h0 p hp; omega)
  have HN3 := Lib.hid NX3
  have HG3 := Lib.hid G3
  have HB3 := Lib.hid (show base ≤ w3.heap.size by omega)
  have HLOW := Lib.hid (show ∀ (u u' : World) (a : Int) (sh : Bool), Below base u u' → NX u gb ga gs A n c b a sh → NX u' gb ga gs A n c b a sh from fun u u' a sh hb h =>
    h.turn (F := fun k => base ≤ k) ⟨hb.os, hb.tape, hb.output, hb.size, fun i hi hn => hb.block i (by omega)⟩ (by have := HBB.out; omega) (by have := HBB.out; omega) (by have := HBB.out; omega) (fun h0 p hp => by have := HAB.out h0 p hp; have := HBB.out; omega))
  have HTUR := Lib.hid (show ∀ (u u' : World), Grow w u → Turn (fun k => k = ga ∨ k = gs) u u' → Grow w u' from fun u u' g t => g.low (t.low (B := w.heap.size) (fun i q => by have := HBB.out; omega) g.size))
  clear NX3 G3 hsz3 hw3 hga hgb hgs hbase
  go_wp2_with fail
  refine (pl_next HN3.out HNE.out.1 HNE.out.2.1 HNE.out.2.2 HAA.out 2 (by omega) (by omega)).mono ?_
  rintro e w4 ⟨rfl, hN4, t4⟩
  rw [Int.zero_add, Bool.false_or] at hN4
  have HG4 := Lib.hid (HTUR.out _ _ HG3.out t4)
  have HZ4 := Lib.hid (Nat.le_trans HB3.out t4.size)
  have hbN := dpN_lt b
  obtain ⟨N, hN⟩ : ∃ N, N = dpN b := ⟨_, rfl⟩
  rw [← hN] at hbN HN
  have HNN := Lib.hid hN
  rw [HN.out]
  clear hN t4
  by_cases h64 : 64 < N
  · have h2 : ¬ n < 2 := fun q => by
      have h0 : getN b 0 2 = 0 := get_no (getK_out (b := b) (a := 0) (wd := 2) (by rw [HL.out]; omega))
      have := HN.out
      omega
    have HE := Lib.hid (show dpE b = 2 by rw [dpE, if_neg (by rw [HL.out]; exact h2), if_pos (by rw [← HNN.out]; exact h64)])
    have z1 : decide ((64 : Int) < (N : Int)) = true := decide_eq_true (by omega)
    have z2 : decide (64 < N) = true := decide_eq_true h64
    go_wp2_with fail
    go_ret3
    exact .bad HE.out (by decide) HG4.out
  · have z1 : decide ((64 : Int) < (N : Int)) = false := decide_eq_false (by omega)
    have z2 : decide (64 < N) = false := decide_eq_false h64
    have HI : DecInv2 w w4 base gb ga gs A n c b N (.slice none 0 0) (.int .i64 0) := by
      refine ⟨0, 2, _, rfl, hN4, HG4.out, HZ4.out, Nat.zero_le _, ?_⟩
      by_cases h2 : n < 2
      · exact .inr ⟨by rw [show getK b 0 2 = false from getK_out (b := b) (a := 0) (wd := 2) (by rw [HL.out]; omega)]; rfl, by rw [dpE, if_pos (by rw [HL.out]; exact h2)], by omega, by omega⟩
      · exact .inl ⟨by rw [show getK b 0 2 = true from getK_small (b := b) (a := 0) (wd := 2) (.inr (.inl rfl)) (by rw [HL.out]; omega)]; rfl, 2, [], rfl, by rw [HL.out]; omega, rfl, DecLink.start _ _, OP.nil _ _⟩
    have HI0 := Lib.hid HI
    clear HI hN4 HN3 HG3 HB3
    go_wp2_with fail
    go_loopw [8, 10] (fun tl ti wr => DecInv2 w wr base gb ga gs A n c b N tl ti) (fun _ ti _ => N - (intOf ti).toNat)
    case atStart => exact HI0.out
    case round =>
      obtain ⟨i, a, sh, rfl, hnx, hg, hbz, hi, hor⟩ := hrel
      have HX := Lib.hid hnx
      have HG := Lib.hid hg
      have HBZ := Lib.hid hbz
      have csh := hnx.short.1.c1
      clear hnx hg hbz HI0
      rcases hor with ⟨rfl, a', L, rfl, ha, hLi, hlk, hop⟩ | ⟨rfl, hE, ha0, ha1⟩
      · have HLK := Lib.hid hlk
        have HOP := Lib.hid hop
        have HLI := Lib.hid hLi
        rw [HL.out] at ha
        clear hlk hop hLi
        by_cases hlt : i < N
        · go_wp2_with fail
          refine (pl_next HX.out HNE.out.1 HNE.out.2.1 HNE.out.2.2 HAA.out 4 (by omega) (by omega)).mono ?_
          rintro e w5 ⟨rfl, hN5, t5⟩
          rw [Bool.false_or] at hN5
          have HG5 := Lib.hid (HTUR.out _ _ HG.out t5)
          have HT5 := Lib.hid t5
          obtain ⟨x0, X0⟩ : ∃ x, Hid (x = getN b (a' : Int) 4) := ⟨_, Lib.hid rfl⟩
          rw [← X0.out]
          have HN5 := Lib.hid hN5
          clear hN5 t5 csh
          go_upto_region 11 with (fail)
          have R6 := Row.new w5 37 [.int .i64 x0, .string ⟨#[]⟩] _ rfl
          have GA := (Grow.refl w5).alloc (.cells #[.int .i64 x0, .string ⟨#[]⟩] 37)
          have HGP := Lib.hid (show base ≤ w5.heap.size from Nat.le_trans HBZ.out HT5.out.size)
          obtain ⟨gp, hgp⟩ : ∃ gp, gp = w5.heap.size := ⟨_, rfl⟩
          obtain ⟨w6, hw6⟩ : ∃ w6, w6 = w5.alloc (.cells #[.int .i64 x0, .string ⟨#[]⟩] 37) := ⟨_, rfl⟩
          rw [← hw6] at R6 GA ⊢
          rw [← hgp] at R6 HGP ⊢
          have HN6 := Lib.hid (HN5.out.keep GA)
          have HG6 := Lib.hid (HG5.out.trans GA)
          have HO5 := HOP.out.turn HT5.out (fun g hg q => by have := (World.ownsRow.lt HOP.out g hg).1; have := HBB.out; omega)
          have HLP := Lib.hid (show ∀ q, u8.ownBlock = some q → q < gp from fun q hq => by rw [hgp]; exact (World.ownsRow.lt HO5 q hq).2)
          have HO6 := Lib.hid (HO5.keep GA)
          have HR6 := Lib.hid R6
          clear hgp hw6 R6 GA HOP HN5 HT5 HO5
          go_wp2_with fail
          refine (pl_next HN6.out HNE.out.1 HNE.out.2.1 HNE.out.2.2 HAA.out 2 (by omega) (by omega)).mono ?_
          rintro e w7 ⟨rfl, hN7, t7⟩
          obtain ⟨k, K0⟩ : ∃ k, Hid (k = ptK b a') := ⟨_, Lib.hid rfl⟩
          rw [ptK_get, ← K0.out]
          have HG7 := Lib.hid (HTUR.out _ _ HG6.out t7)
          have HR7 := Lib.hid (HR6.out.turn t7 (by have := HGP.out; have := HBB.out; omega))
          have HO7 := Lib.hid (HO6.out.turn t7 (fun g hg q => by have := (World.ownsRow.lt HO6.out g hg).1; have := HBB.out; omega))
          have HZ7 := Lib.hid (show base ≤ w7.heap.size from Nat.le_trans (Nat.le_of_lt (Nat.lt_of_le_of_lt HGP.out HR6.out.1.1)) t7.size)
          clear t7 HN6 HO6 HR6
          by_cases h6 : n < a' + 6
          · have HE := Lib.hid (dpE_rd (by
                rw [HL.out]
                apply Decidable.byContradiction
                intro q
                have h0 : getN b 0 2 = 0 := get_no (getK_out (b := b) (a := 0) (wd := 2) (by rw [HL.out]; omega))
                have := HN.out
                omega) (by rw [← HNN.out]; omega) (by rw [← HNN.out]; exact HLK.out.short hlt (by rw [HL.out]; exact h6)) (show (3 : Int) ≠ 0 by decide))
            rw [getK2_out (by rw [HL.out]; exact h6), Bool.not_false, Bool.or_true] at hN7
            have X : DecInv2 w w7 base gb ga gs A n c b N u8 (.int .i64 ((i : Int) + 1)) := ⟨i + 1, _, true, by simp, hN7, HG7.out, HZ7.out, hlt, .inr ⟨rfl, HE.out, by omega, by omega⟩⟩
            have HX7 := Lib.hid X
            have s7 := hN7.short.1.c1
            have e5 := wrap_smallR (show i < 64 by omega)
            clear hN7 X
            go_wp2_with fail
            go_roundw
            case rel => (try rw [e5]); first | exact HX7.out | ((repeat apply Exists.intro); exact HX7.out) | ((repeat apply Exists.intro); refine ⟨HX7.out, ?_⟩; rfl)
            case measure => first | exact measR hlt | exact measRW hlt e5
          · rw [getK2 (by rw [HL.out]; omega), getK4 (by rw [HL.out]; omega)] at hN7
            obtain ⟨a6, e6⟩ : ∃ a6 : Nat, (a' : Int) + 4 + 2 = (a6 : Int) := ⟨a' + 6, by simp; omega⟩
            have ha6 : a6 = a' + 6 := by omega
            rw [e6] at hN7
            have hkl := ptK_lt b a'
            rw [← K0.out] at hkl
            have HN7 := Lib.hid (show NX w7 gb ga gs A n c b (a6 : Int) false from hN7)
            have s7 := HN7.out.short.1.c1
            have b7 := HN7.out.b.1.c1
            have c7 := HN7.out.at_.1.c1
            have f7 := HN7.out.short.2 0 (by simp)
            have H2N := Lib.hid (show 2 ≤ b.length by rw [HL.out]; omega)
            clear hN7
            by_cases hk : 256 < k
            · have HE := Lib.hid (dpE_rd H2N.out (by rw [← HNN.out]; omega) (by rw [← HNN.out]; exact HLK.out.odd hlt (by rw [HL.out]; omega) (by rw [← K0.out]; exact hk)) (show (2 : Int) ≠ 0 by decide))
              have y1 : decide (256 < k) = true := decide_eq_true hk
              have y2 : decide ((256 : Int) < (k : Int)) = true := decide_eq_true (by omega)
              go_wp2_with fail
              go_ret3
              exact .bad HE.out (by decide) HG7.out
            · have y1 : decide (256 < k) = false := decide_eq_false hk
              have y2 : decide ((256 : Int) < (k : Int)) = false := decide_eq_false (by omega)
              by_cases h7 : n < a6 + k
              · have HE := Lib.hid (dpE_rd H2N.out (by rw [← HNN.out]; omega) (by rw [← HNN.out]; exact HLK.out.less hlt (by rw [HL.out]; omega) (by rw [← K0.out]; omega) (by rw [← K0.out, HL.out]; omega)) (show (3 : Int) ≠ 0 by decide))
                have y3 : decide ((n : Int) - (a6 : Int) < (k : Int)) = true := decide_eq_true (by omega)
                have tS : Turn (fun q => q = ga ∨ q = gs) w7 (w7.setCell ⟨gs, 0, none⟩ (.bool true)) := Turn.setCell _ (.inr rfl) _
                have X : DecInv2 w (w7.setCell ⟨gs, 0, none⟩ (.bool true)) base gb ga gs A n c b N u8 (.int .i64 ((i : Int) + 1)) := by
                  refine ⟨i + 1, (a6 : Int), true, by simp, ⟨HN7.out.b.set_ne HNE.out.2.1.symm, HN7.out.at_.set_ne HNE.out.2.2.symm, ?_, HN7.out.bytes.turn' tS fun h0 p hp q => by have := HAA.out h0 p hp; rcases q with q | q; exact this.1 q; exact this.2 q⟩, HTUR.out _ _ HG7.out tS, by simpa using HZ7.out, hlt, .inr ⟨rfl, HE.out, by omega, by omega⟩⟩
                  have := HN7.out.short.set (j := 0) (v := .bool true) (by simp)
                  simpa using this
                have HX7 := Lib.hid X
                have e5 := wrap_smallR (show i < 64 by omega)
                clear X tS
                go_wp2_with fail
                go_roundw
                case rel => (try rw [e5]); first | exact HX7.out | ((repeat apply Exists.intro); exact HX7.out) | ((repeat apply Exists.intro); refine ⟨HX7.out, ?_⟩; rfl)
                case measure => first | exact measR hlt | exact measRW hlt e5
              · have y3 : decide ((n : Int) - (a6 : Int) < (k : Int)) = false := decide_eq_false (by omega)
                obtain ⟨z, ez⟩ : ∃ z : Nat, (a6 : Int) + (k : Int) = (z : Int) := ⟨a6 + k, by simp⟩
                have hz : z = a6 + k := by omega
                have i1 : a6 ≤ z := by omega
                have i2 : z ≤ c := by omega
                have i3 : z ≤ n := by omega
                have i4 : a6 ≤ c := by omega
                have zk : z - a6 = k := by omega
                have HST := Lib.hid (HLK.out.step hlt (by rw [← K0.out, HL.out]; omega) (by rw [← K0.out]; omega))
                obtain ⟨r, hr⟩ : ∃ r, r = ptAt b a' := ⟨_, rfl⟩
                have hr0 : r.pos = x0 := by rw [hr, X0.out]; rfl
                have HXX := Lib.hid (show a' + 6 + ptK b a' = z by rw [← K0.out]; omega)
                rw [HXX.out, ← hr] at HST
                obtain ⟨g, o, rfl, -, -⟩ := HN7.out.bytes.all (by omega)
                have hsd := (HN7.out.bytes.drop (k := a6) (c := c) (by omega) hc).take (k := k) (by omega)
                have hsv : ((b.drop a6).take k).toArray = r.dat.data := by rw [hr, ptAt, K0.out, ha6]
                have cv : ∀ c', (convert 22 9 (.slice (if c = a6 then some ⟨g, o, none⟩ else (some (⟨g, o, none⟩ : Addr)).map (·.add a6)) k c')).run Try.prog w7 = .ok (.string r.dat) w7 := fun c' => by
                  have := conv_s (c := c') hsd
                  rwa [hsv] at this
                have HLL := Lib.hid (show L.length + 1 ≤ 1000000 by rw [HLI.out]; omega)
                subst hr0
                have d0 := HR7.out.1.c2.1
                have d1 := HR7.out.1.c2.2
                have fd1 := HR7.out.2 1 (by simp)
                have fa7 := HN7.out.at_.2 0 (by simp)
                have hne1 : gp ≠ ga := by have := HGP.out; have := HBB.out; omega
                have hne2 : ga ≠ gp := hne1.symm
                have hne3 : gp ≠ gb := by have := HGP.out; have := HBB.out; omega
                have hne4 : gp ≠ gs := by have := HGP.out; have := HBB.out; omega
                have tS : Turn (fun q => q = gp ∨ q = ga) w7 ((w7.setCell ⟨gp, 1, none⟩ (.string r.dat)).setCell ⟨ga, 0, none⟩ (.int .i64 (z : Int))) := (Turn.setCell _ (.inl rfl) _).and (Turn.setCell _ (.inr rfl) _)
                have HR8 := Lib.hid (show Row ((w7.setCell ⟨gp, 1, none⟩ (.string r.dat)).setCell ⟨ga, 0, none⟩ (.int .i64 (z : Int))) gp [.int .i64 r.pos, .string r.dat] by
                  have := ((HR7.out.set (j := 1) (v := .string r.dat) (by simp)).set_ne (p := ⟨ga, 0, none⟩) (v := .int .i64 (z : Int)) hne2)
                  simpa using this)
                have HN8 := Lib.hid (show NX ((w7.setCell ⟨gp, 1, none⟩ (.string r.dat)).setCell ⟨ga, 0, none⟩ (.int .i64 (z : Int))) gb ga gs (some ⟨g, o, none⟩) n c b (z : Int) false by
                  refine ⟨HN7.out.b.turn tS (by rintro (q | q); exact hne3 q.symm; exact HNE.out.1 q), ?_, HN7.out.short.turn tS (by rintro (q | q); exact hne4 q.symm; exact HNE.out.2.2 q.symm), HN7.out.bytes.turn' tS fun h0 p hp q => ?_⟩
                  · have := ((HN7.out.at_.set_ne (p := ⟨gp, 1, none⟩) (v := .string r.dat) hne1).set (j := 0) (v := .int .i64 (z : Int)) (by simp))
                    simpa using this
                  · rcases q with q | q
                    · have := HAB.out h0 p hp; have := HGP.out; have := HBB.out; omega
                    · exact (HAA.out h0 p hp).1 q)
                have HO8 := Lib.hid (HO7.out.turn tS (fun q hq hf => by
                  have := (World.ownsRow.lt HO7.out q hq).1
                  rcases hf with hf | hf
                  · have := HLP.out q hq; omega
                  · have := HBB.out; omega))
                have HG8 := Lib.hid (HG7.out.low (tS.low (B := w.heap.size) (fun i q => by have := HBB.out; have := HGP.out; omega) HG7.out.size))
                have HZ8 := Lib.hid (Nat.le_trans HZ7.out tS.size)
                clear hr hsv hsd ha6 hz tS
                by_cases hca : c = a6
                · simp only [if_pos hca] at cv
                  go_upto_region 14 with (fail)
                  obtain ⟨w8, hw8⟩ : ∃ w8, w8 = (w7.setCell ⟨gp, 1, none⟩ (.string r.dat)).setCell ⟨ga, 0, none⟩ (.int .i64 (z : Int)) := ⟨_, rfl⟩
                  rw [← hw8] at HR8 HN8 HO8 HG8 HZ8 ⊢
                  clear hw8 cv d0 d1 fd1 fa7 s7 b7 c7 f7 HN7 HR7 HO7 HG7 HZ7
                  have d0 := HR8.out.1.c2.1
                  have d1 := HR8.out.1.c2.2
                  go_wp2_with (at_builtin; refine wpList_appP1 rfl (.tmp 48) (.tmp 50) rfl base _ L rfl r (by first | rfl | simp) HO8.out HLL.out HZ8.out ?_; intro v2 w9 q1 q2)
                  have X : DecInv2 w w9 base gb ga gs (some ⟨g, o, none⟩) n c b N v2 (.int .i64 ((i : Int) + 1)) := ⟨i + 1, (z : Int), false, by simp, HLOW.out _ _ _ _ q2 HN8.out, HG8.out.low (q2.mono (by have := HBB.out; omega)), Nat.le_trans HZ8.out q2.size, hlt, .inl ⟨rfl, z, L ++ [r], rfl, by rw [HL.out]; exact i3, by simp [HLI.out], HST.out, q1⟩⟩
                  have HX9 := Lib.hid X
                  have e5 := wrap_smallR (show i < 64 by omega)
                  clear X q1 q2 ez e6
                  try rw [← hca]
                  clear hca
                  go_roundw
                  case rel => (try rw [e5]); first | exact HX9.out | ((repeat apply Exists.intro); exact HX9.out) | ((repeat apply Exists.intro); refine ⟨HX9.out, ?_⟩; rfl)
                  case measure => first | exact measR hlt | exact measRW hlt e5
                · simp only [if_neg hca, Option.map_some, Addr.add_lit] at cv
                  go_upto_region 14 with (fail)
                  obtain ⟨w8, hw8⟩ : ∃ w8, w8 = (w7.setCell ⟨gp, 1, none⟩ (.string r.dat)).setCell ⟨ga, 0, none⟩ (.int .i64 (z : Int)) := ⟨_, rfl⟩
                  rw [← hw8] at HR8 HN8 HO8 HG8 HZ8 ⊢
                  clear hw8 cv d0 d1 fd1 fa7 s7 b7 c7 f7 HN7 HR7 HO7 HG7 HZ7
                  have d0 := HR8.out.1.c2.1
                  have d1 := HR8.out.1.c2.2
                  go_wp2_with (at_builtin; refine wpList_appP1 rfl (.tmp 48) (.tmp 50) rfl base _ L rfl r (by first | rfl | simp) HO8.out HLL.out HZ8.out ?_; intro v2 w9 q1 q2)
                  have X : DecInv2 w w9 base gb ga gs (some ⟨g, o, none⟩) n c b N v2 (.int .i64 ((i : Int) + 1)) := ⟨i + 1, (z : Int), false, by simp, HLOW.out _ _ _ _ q2 HN8.out, HG8.out.low (q2.mono (by have := HBB.out; omega)), Nat.le_trans HZ8.out q2.size, hlt, .inl ⟨rfl, z, L ++ [r], rfl, by rw [HL.out]; exact i3, by simp [HLI.out], HST.out, q1⟩⟩
                  have HX9 := Lib.hid X
                  have e5 := wrap_smallR (show i < 64 by omega)
                  clear X q1 q2 ez e6
                  try rw [← hca]
                  clear hca
                  go_roundw
                  case rel => (try rw [e5]); first | exact HX9.out | ((repeat apply Exists.intro); exact HX9.out) | ((repeat apply Exists.intro); refine ⟨HX9.out, ?_⟩; rfl)
                  case measure => first | exact measR hlt | exact measRW hlt e5
        · obtain rfl : i = N := by omega
          obtain ⟨d1, d2, d3⟩ := HLK.out.done
          have HRE := Lib.hid d1
          have HZ := Lib.hid (show dpZ b = a' by rw [dpZ, ← HNN.out]; exact d2)
          have HLR := Lib.hid (show L = rdL b (dpN b) 2 by rw [← HNN.out]; exact d3)
          by_cases h2 : n < 2
          · exfalso
            have h0 : getN b 0 2 = 0 := get_no (getK_out (b := b) (a := 0) (wd := 2) (by rw [HL.out]; omega))
            have h1 := HN.out
            have h3 : i = 0 := by omega
            have := HLK.out.2.1
            rw [h3] at d2
            have h5 : a' = 2 := d2.symm
            omega
          have HE0 := Lib.hid (show dpE b = if b.length < a' + 4 then 3 else if getN b (a' : Int) 4 ≠ (crcN (b.take a') : Nat) then 4 else if b.length < dpF b then 3 else if zerosB b (a' + 4) (dpF b) = true then 0 else 2 by
            rw [dpE, if_neg (by rw [HL.out]; omega), if_neg (by rw [← HNN.out]; omega), if_neg (by rw [← HNN.out, HRE.out]; simp), HZ.out])
          have HFF := Lib.hid (show dpF b = a' + 4 + fillN (a' + 4) by rw [dpF, HZ.out])
          have cat := HX.out.at_.1.c1
          clear d1 d2 d3
          go_wp2_with fail
          refine (pl_next HX.out HNE.out.1 HNE.out.2.1 HNE.out.2.2 HAA.out 4 (by omega) (by omega)).mono ?_
          rintro e w5 ⟨rfl, hN5, t5⟩
          rw [Bool.false_or] at hN5
          have HG5 := Lib.hid (HTUR.out _ _ HG.out t5)
          have HO5 := Lib.hid (HOP.out.turn t5 (fun g hg q => by have := (World.ownsRow.lt HOP.out g hg).1; have := HBB.out; omega))
          obtain ⟨x0, X0⟩ : ∃ x, Hid (x = getN b (a' : Int) 4) := ⟨_, Lib.hid rfl⟩
          rw [← X0.out]
          obtain ⟨a4, e4⟩ : ∃ a4 : Nat, (a' : Int) + 4 = (a4 : Int) := ⟨a' + 4, by simp⟩
          have ha4 : a' + 4 = a4 := by omega
          rw [e4] at hN5
          have c5 := hN5.at_.1.c1
          have b5 := hN5.b.1.c1
          have HN5 := Lib.hid hN5
          clear hN5 t5 csh cat e4
          go_wp2_with fail
          refine (num_up _ _ _).mono ?_
          rintro e w' ⟨rfl, rfl⟩
          rw [up_fillP a4 (by omega)]
          obtain ⟨M, hM⟩ : ∃ M, M = a4 + fillN a4 := ⟨_, rfl⟩
          rw [show (a4 : Int) + (fillN a4 : Nat) = (M : Int) by rw [hM]; simp]
          rw [ha4, ← hM] at HFF
          rw [ha4] at HE0
          have hMa : a4 ≤ M := by omega
          have hMb : M ≤ 1073741100 := by have := fill_ltP a4; omega
          clear hM
          by_cases h4 : n < a4
          · have s5 := HN5.out.short.1.c1
            rw [show getK b (a' : Int) 4 = false from getK_out (wd := 4) (by rw [HL.out]; omega)] at s5
            simp only [Bool.not_false] at s5
            have HE := Lib.hid (show dpE b = 3 by rw [HE0.out, if_pos (by rw [HL.out]; exact h4)])
            go_wp2_with fail
            go_ret3
            exact .bad HE.out (by decide) HG5.out
          · have s5 := HN5.out.short.1.c1
            rw [show getK b (a' : Int) 4 = true from getK4 (by rw [HL.out]; omega)] at s5
            simp only [Bool.not_true] at s5
            have HE1 := Lib.hid (show dpE b = if getN b (a' : Int) 4 ≠ (crcN (b.take a') : Nat) then 4 else if b.length < dpF b then 3 else if zerosB b a4 (dpF b) = true then 0 else 2 by rw [HE0.out, if_neg (by rw [HL.out]; exact h4)])
            have i1 : a' ≤ c := by omega
            obtain ⟨g, o, rfl, -, hcell⟩ := HS.out.all (by omega)
            have HC := Lib.hid (show ∀ k, k < n → w.cell? ⟨g, o + k, none⟩ = some (.int .u8 ((b.getD k 0).toNat : Int)) from fun k hk => by
              rw [hcell k hk, List.getD_eq_getElem?_getD, List.getElem?_eq_getElem (by rw [HL.out]; exact hk)]; rfl)
            clear HE0 hcell
            go_wp2_with fail
            refine (sum_s (HN5.out.bytes.take (k := a') (by omega))).mono ?_
            rintro e w6 ⟨q, rfl, hq, hq1, g6⟩
            have HG6 := Lib.hid (HG5.out.trans g6)
            have HO6 := Lib.hid (HO5.out.keep g6)
            have HN6 := Lib.hid (HN5.out.keep g6)
            have c6 := HN6.out.at_.1.c1
            have b6 := HN6.out.b.1.c1
            clear g6 c5 b5 s5 HN5 HO5 HG5
            by_cases hsum : x0 = (q : Int)
            · have hne : (x0 != (q : Int)) = false := by rw [bne_eq_false_iff_eq]; exact hsum
              have HE2 := Lib.hid (show dpE b = if b.length < dpF b then 3 else if zerosB b a4 (dpF b) = true then 0 else 2 by rw [HE1.out, if_neg (by rw [← X0.out, hsum, hq.out]; simp)])
              clear hsum hq HE1
              by_cases hnM : n < M
              · have HE := Lib.hid (show dpE b = 3 by rw [HE2.out, if_pos (by rw [HL.out, HFF.out]; exact hnM)])
                have y1 : decide (n < M) = true := decide_eq_true hnM
                have y2 : decide ((n : Int) < (M : Int)) = true := decide_eq_true (by omega)
                go_wp2_with fail
                go_ret3
                exact .bad HE.out (by decide) HG6.out
              · have HE3 := Lib.hid (show dpE b = if zerosB b a4 M = true then 0 else 2 by rw [HE2.out, if_neg (by rw [HL.out, HFF.out]; exact hnM), HFF.out])
                have y1 : decide (n < M) = false := decide_eq_false hnM
                have y2 : decide ((n : Int) < (M : Int)) = false := decide_eq_false (by omega)
                have j1 : M ≤ c := by omega
                have j2 : a4 ≤ c := by omega
                obtain ⟨f, hf⟩ : ∃ f, M - a4 = f := ⟨_, rfl⟩
                clear HE2
                by_cases hca : c = a4
                · obtain rfl : f = 0 := by omega
                  have HE := Lib.hid (show dpE b = 0 by
                    rw [HE3.out, if_pos]
                    rw [zeros_iff (by rw [HL.out]; omega)]
                    intro i h1 h2
                    omega)
                  go_wp2_with fail
                  go_loopw [89] (fun t wr' => t = .int .i64 0 ∧ wr' = w6) (fun t _ => 0)
                  case atStart => exact ⟨rfl, rfl⟩
                  case round =>
                    obtain ⟨rfl, rfl⟩ := hrel
                    go_wp2_with fail
                    go_ret3
                    refine ⟨_, ?_, (by rw [dpL, if_pos HE.out, ← HLR.out]; exact HO6.out.low (by have := HBB.out; omega)), HG6.out⟩
                    rw [HE.out, dpU, if_pos HE.out, HFF.out]; rfl
                · go_wp2_with fail
                  go_loopw [89] (fun t wr' => ZerInv2 b a4 f t ∧ wr' = w6) (fun t _ => f - (intOf t).toNat)
                  case atStart => exact ⟨⟨0, rfl, Nat.zero_le _, fun i h1 => by omega⟩, rfl⟩
                  case round =>
                    obtain ⟨⟨k, rfl, hk2, hz⟩, rfl⟩ := hrel
                    have HZZ := Lib.hid hz
                    clear hz
                    by_cases hkM : k < f
                    · have hc := HG6.out.cell (HC.out (a4 + k) (by omega))
                      obtain ⟨u, hu⟩ : ∃ u : Int, u = ((b.getD (a4 + k) 0).toNat : Int) := ⟨_, rfl⟩
                      rw [← hu, ← Nat.add_assoc] at hc
                      have HU := Lib.hid hu
                      have hkn : a4 + k < n := by omega
                      have z5 : decide ((k : Int) < (f : Int)) = true := decide_eq_true (by omega)
                      clear hu
                      by_cases h0 : u = 0
                      · have h0' : (u != 0) = false := by rw [bne_eq_false_iff_eq]; exact h0
                        have X : ZerInv2 b a4 f (.int .i64 ((k : Int) + 1)) := ⟨k + 1, by simp, hkM, fun i h1 => by
                          by_cases e : i = k
                          · subst e
                            apply UInt8.toNat_inj.1
                            have := HU.out
                            rw [h0] at this
                            simp at this ⊢
                            omega
                          · exact HZZ.out i (by omega)⟩
                        have HXX := Lib.hid X
                        have HMS := Lib.hid (show f - (intOf (.int .i64 ((k : Int) + 1))).toNat < f - (intOf (.int .i64 (k : Int))).toNat from measR hkM)
                        clear X h0
                        go_wp2_with fail
                        go_roundw
                        case rel => first | exact ⟨HXX.out, rfl⟩ | exact ⟨HXX.out, trivial⟩ | exact HXX.out
                        case measure => exact HMS.out
                      · have h0' : (u != 0) = true := by rw [bne_iff_ne]; exact h0
                        have HE := Lib.hid (show dpE b = 2 by
                          rw [HE3.out, if_neg]
                          intro q
                          rw [zeros_iff (by rw [HL.out]; omega)] at q
                          have := q (a4 + k) (by omega) (by omega)
                          apply h0
                          rw [HU.out, List.getD_eq_getElem?_getD, List.getElem?_eq_getElem (by rw [HL.out]; exact hkn)]
                          simp [this])
                        clear h0
                        go_wp2_with fail
                        go_ret3
                        exact .bad HE.out (by decide) HG6.out
                    · have hkf : k = f := by omega
                      have HE := Lib.hid (show dpE b = 0 by
                        rw [HE3.out, if_pos]
                        rw [zeros_iff (by rw [HL.out]; omega)]
                        intro i h1 h2
                        have := HZZ.out (i - a4) (by omega)
                        rw [show a4 + (i - a4) = i by omega, List.getD_eq_getElem?_getD, List.getElem?_eq_getElem (by rw [HL.out]; omega)] at this
                        simpa using this)
                      have z5 : decide ((k : Int) < (f : Int)) = false := decide_eq_false (by omega)
                      have z6 : decide (k < f) = false := decide_eq_false hkM
                      clear hkf hf
                      go_wp2_with fail
                      go_ret3
                      refine ⟨_, ?_, (by rw [dpL, if_pos HE.out, ← HLR.out]; exact HO6.out.low (by have := HBB.out; omega)), HG6.out⟩
                      rw [HE.out, dpU, if_pos HE.out, HFF.out]; rfl
            · have hne : (x0 != (q : Int)) = true := by rw [bne_iff_ne]; exact hsum
              have HE := Lib.hid (show dpE b = 4 by rw [HE1.out, if_pos (by rw [← X0.out, ← hq.out]; exact hsum)])
              clear hsum
              go_wp2_with fail
              go_ret3
              exact .bad HE.out (by decide) HG6.out
      · have HE := Lib.hid hE
        have cat := HX.out.at_.1.c1
        clear hE
        by_cases hlt : i < N
        all_goals
          go_wp2_with fail
          refine (pl_next HX.out HNE.out.1 HNE.out.2.1 HNE.out.2.2 HAA.out 4 (by omega) (by omega)).mono ?_
          rintro e w5 ⟨rfl, hN5, t5⟩
          rw [Bool.true_or] at hN5
          have HG5 := Lib.hid (HTUR.out _ _ HG.out t5)
          have c5 := hN5.at_.1.c1
          have s5 := hN5.short.1.c1
          obtain ⟨x0, X0⟩ : ∃ x, Hid (x = getN b a 4) := ⟨_, Lib.hid rfl⟩
          rw [← X0.out]
          clear hN5 t5 csh cat
          go_wp2_with fail
          refine (num_up _ _ _).mono ?_
          rintro e w' ⟨rfl, rfl⟩
          obtain ⟨x1, X1⟩ : ∃ x, Hid (x = upN (a + 4) 8) := ⟨_, Lib.hid rfl⟩
          rw [← X1.out]
          go_wp2_with fail
          go_ret3
          exact .bad HE.out (by decide) HG5.out
end Go.Proofs.Ytlinlmimakealaa

namespace Go.Proofs.Ytlinlmimakealaa
open Go.RowKit Go.Maps

set_option maxHeartbeats 2000000 in
theorem pm_fence_d (u : FrameMode) {w : World} {x : MB} {N : Nat} {S T : List UInt8} {A : List Bool} (h : PM w x N S T A) :
    CallsD Try.prog 19 #[.pointer (some ⟨x.p, 0, none⟩)] u w fun e u' w' => u' = u ∧ (e = .returned (.tuple #[]) ∧ PM w' x N S (mixL S T fun k => A.getD k false) (List.replicate N false) ∧ Turn x.F w w') := by
  obtain ⟨cs, ct, hcs, hct, c0, c1, c2, l0⟩ := h.view
  obtain ⟨D, hD1, hD2⟩ := h.isSet
  have hl := h.lenA
  rw [hl] at hD1
  have H := Lib.hid h
  have HL := Lib.hid hl
  have HD := Lib.hid hD2
  have HLT := Lib.hid h.lt
  clear h hl hD2
  go_enter_d Try.func19, Try.ntmps19
  go_wp2_with (at_range; refine wpList_range_own _ rfl (.tmp 6) 74 rfl 3 4 int_keyed' Try.underlying74 _ x.b N D rfl hD1 ?_; intro w0 hrg0 hg0 hs0)
  go_frame
  clear c0 c1 c2 l0 hD1
  go_loopw [2] (fun _ wr => FenceInv w wr x N S T A w.heap.size) (fun _ wr => wr.rangeLeft x.b w.heap.size)
  case atStart =>
    refine ⟨_, _, _, hrg0, fun kl hk => (HD.out kl).1 hk, ?_, Turn.grown hg0 (fun j hj => by cases hj)⟩
    have hT : fenceT S T A (Maps.has D) = T := mixL_none S T fun k => by
      cases ha : A.getD k false with
      | false => rfl
      | true =>
        have : Maps.has D (keyL k) = true := (HD.out _).2 ⟨k, rfl, by rw [List.getD_eq_getElem?_getD] at ha; cases hk : A[k]? with | none => rw [hk] at ha; cases ha | some v => rw [hk] at ha; rw [show v = true from ha]⟩
        rw [this]; rfl
    have hA : fenceA N (Maps.has D) = A := by
      apply List.ext_getElem?
      intro k
      rw [fenceA_get]
      by_cases hk : k < N
      · rw [if_pos hk]
        have hk' : k < A.length := by rw [HL.out]; exact hk
        rw [List.getElem?_eq_getElem hk']
        congr 1
        cases ha : A[k] with
        | true => exact (HD.out _).2 ⟨k, rfl, by rw [List.getElem?_eq_getElem hk', ha]⟩
        | false =>
          cases hh : Maps.has D (keyL k) with
          | false => rfl
          | true =>
            obtain ⟨j, hj, hj2⟩ := (HD.out _).1 hh
            obtain rfl := keyL_inj hj
            rw [List.getElem?_eq_getElem hk', ha] at hj2
            cases hj2
      · rw [if_neg hk, List.getElem?_eq_none (by rw [HL.out]; omega)]
    rw [hT, hA]
    exact H.out.turn (F := fun _ => False) (Turn.grown hg0 (fun j hj => by cases hj)) (fun _ q => q.elim)
  case round =>
    obtain ⟨left, cnt, D1, hrg, hleft, hP, ht⟩ := hrel
    have HLF := Lib.hid hleft
    have HRG := Lib.hid hrg
    have HP := Lib.hid hP
    clear hleft hP
    go_wp2_with (at_next; refine wpList_nextSet rfl (.tmp 7) rfl x.b w.heap.size N D1 left cnt rfl HRG.out HLF.out (fun hl0 => ?_) (fun k v w1 cnt1 hN hen => ?_))
    · have hP := HP.out
      rw [fenceT_end hl0, fenceA_end hl0] at hP
      go_end0
      exact ⟨rfl, hP, ht⟩
    · have hk : k < N := by have := (List.getElem?_eq_some_iff.1 hN.at_).1; rw [HL.out] at this; exact this
      have hnr : ¬ x.F w.heap.size := fun q => by have := HLT.out _ q; omega
      have tr : Turn (fun i => i = w.heap.size) wr w1 := Turn.grown hN.grow (fun j hj => by injection hj with hj; exact hj.symm)
      refine (pm_keep_r (HP.out.turn tr (fun i q => by subst q; exact hnr)) k hk hN.rg hnr).mono ?_
      rintro e w2 ⟨rfl, hP2, t2, cnt2, hle, hrg2⟩
      rw [Maps.strike_twice] at hrg2
      rw [fenceT_step hN.at_, fenceA_step] at hP2
      have X : FenceInv w w2 x N S T A w.heap.size := ⟨_, cnt2, _, hrg2, fun kl hk => HLF.out kl (by simp at hk; exact hk.1), hP2, (ht.trans tr (fun i q => by subst q; exact .inr (Nat.le_refl _))).and t2⟩
      have M : w2.rangeLeft x.b w.heap.size < wr.rangeLeft x.b w.heap.size := by rw [hrg2.left_eq, HRG.out.left_eq]; exact Nat.lt_of_le_of_lt hle hN.lt
      go_wp2_with fail
      go_roundw
      case rel => first | exact X | ((repeat apply Exists.intro); exact X) | ((repeat apply Exists.intro); refine ⟨X, ?_⟩; rfl)
      case measure => exact M
end Go.Proofs.Ytlinlmimakealaa

namespace Go.Proofs.Ytlinlmimakealaa
open Go.RowKit

theorem bvs_replicate (n : Nat) : bvs (List.replicate n 0) = List.replicate n (.int .u8 0) := by simp [bvs, bv]

/-- 'make([]byte, n)'. -/
theorem wpList_makeB {w : World} {ops : Array Oper} {rest : List Oper} {o : Oper} {a : Act} {Q : Exit → Act → World → Prop}
    (hg : o.guard = none) (l c : Operand) (hop : o.op = Op.makeSlice 22 l c)
    (base : Nat) (L C : Int) (n : Nat) (hl : a.eval l = .int .i64 L) (hc : a.eval c = .int .i64 C) (hL : L = (n : Int)) (hC : C = (n : Int)) (hn : n ≤ 1073741824) (hb : base ≤ w.heap.size)
    (hK : ∀ w', OB w' base (.slice (some ⟨w.heap.size, 0, none⟩) n n) (List.replicate n 0) → Below base w w' → w.grownBy w' none → wpList Try.prog ops Q rest (a.put o.dst (.slice (some ⟨w.heap.size, 0, none⟩) n n)) w') :
    wpList Try.prog ops Q (o :: rest) a w := by
  obtain ⟨i0, hi, hz, h1, h2⟩ := info_parts byte_info
  refine wpList_make_full w hg l c _ hop base 5 i0 (.int .u8 0) 1 Try.underlying22 hi hz h1 .i64 .i64 L C n hl hc hL hC (by rw [h2]; omega) (by unfold maxLen; omega) hb ?_
  intro w' ho hgr
  refine hK w' ?_ ((Below.refl _ _).grown hgr hb (fun k hk => by cases hk)) hgr
  unfold OB
  rw [List.length_replicate, bvs_replicate]
  have e : (madeCells (Value.int .u8 0).cells (n * 1)).toList = List.replicate n (.int .u8 0) := by
    rw [Nat.mul_one]; exact toList_madeCells_one _ _
  rw [e] at ho
  exact ho

/-- 'make([]byte, 0, n)'. -/
theorem wpList_make0 {w : World} {ops : Array Oper} {rest : List Oper} {o : Oper} {a : Act} {Q : Exit → Act → World → Prop}
    (hg : o.guard = none) (l c : Operand) (hop : o.op = Op.makeSlice 22 l c)
    (base : Nat) (C : Int) (n : Nat) (hl : a.eval l = .int .i64 0) (hc : a.eval c = .int .i64 C) (hC : C = (n : Int)) (hn : n ≤ 1073741824) (hb : base ≤ w.heap.size)
    (hK : ∀ w', OB w' base (.slice (some ⟨w.heap.size, 0, none⟩) 0 n) [] → Below base w w' → w.grownBy w' none → wpList Try.prog ops Q rest (a.put o.dst (.slice (some ⟨w.heap.size, 0, none⟩) 0 n)) w') :
    wpList Try.prog ops Q (o :: rest) a w := by
  obtain ⟨i0, hi, hz, h1, h2⟩ := info_parts byte_info
  refine wpList_make_own w hg l c _ hop base 5 i0 (.int .u8 0) 1 Try.underlying22 hi hz h1 .i64 .i64 C n hl hc hC (by rw [h2]; omega) (by unfold maxLen; omega) hb ?_
  intro w' ho hgr
  exact hK w' ho ((Below.refl _ _).grown hgr hb (fun k hk => by cases hk)) hgr

end Go.Proofs.Ytlinlmimakealaa

namespace Go.Proofs.Ytlinlmimakealaa
open Go.RowKit

/-- A log in the last 512 bytes of a memory of 1024. -/
def LG (w : World) (l : Nat) (x : MB) (s : MS) : Prop := PM w x 128 s.S s.T s.A ∧ Blk w l [.pointer (some ⟨x.p, 0, none⟩), .int .i64 512, .int .i64 512] ∧ ¬ x.F l
section
variable {w w' : World} {l : Nat} {x : MB} {s : MS} {F : Nat → Prop}
theorem LG.keep (h : LG w l x s) (g : Grow w w') : LG w' l x s := ⟨h.1.keep g, h.2.1.keep g, h.2.2⟩
theorem Blk.turn {g : Nat} {vs : List Value} (h : Blk w g vs) (t : Turn F w w') (hF : ¬ F g) : Blk w' g vs := ⟨Nat.lt_of_lt_of_le h.1 t.size, fun j v hv => (t.cell (p := ⟨g, j, none⟩) h.1 hF).trans (h.2 j v hv)⟩
theorem LG.turn (h : LG w l x s) (t : Turn F w w') (h1 : ∀ k, F k → ¬ x.F k) (h2 : ¬ F l) : LG w' l x s := ⟨h.1.turn t h1, h.2.1.turn t h2, h.2.2⟩
theorem LG.lenS (h : LG w l x s) : s.S.length = 1024 := h.1.lenS
end

set_option maxHeartbeats 2000000 in
theorem pl_keep {w : World} {l : Nat} {x : MB} {s : MS} (h : LG w l x s) {B : Option Addr} {m c : Nat} {bs : List UInt8} (hs : Sl w B m bs) (hB : 0 < m → ∀ p, B = some p → ¬ x.F p.block) (a : Int) :
    Calls Try.prog 63 #[.pointer (some ⟨l, 0, none⟩), .int .i64 a, .slice B m c] w fun e w' => e = .returned (.tuple #[]) ∧ LG w' l x (s.keep a bs) ∧ Turn x.F w w' := by
  obtain ⟨hP, hl, hlx⟩ := h
  have c0 := hl.c3.1
  have HL := Lib.hid hl
  have HLX := Lib.hid hlx
  have HP := Lib.hid hP
  have HS := Lib.hid hs
  have HB := Lib.hid hB
  have HM := Lib.hid hs.1
  have hmb := hs.2.1
  clear hl hP hs hB hlx
  go_enter_defers Try.func63, Try.ntmps63
  go_wp2_with fail
  refine (pm_storeU HP.out HS.out HB.out a).mono ?_
  rintro e w1 ⟨rfl, hP1, t1⟩
  have HP1 := Lib.hid hP1
  have HT1 := Lib.hid t1
  have HL1 := Lib.hid (HL.out.turn t1 HLX.out)
  have c1 := HL1.out.c3.1
  clear hP1 t1 c0
  go_wp2_with fail
  refine (pm_flushU HP1.out a (m : Int) (by omega) (by omega)).mono ?_
  rintro e w2 ⟨rfl, hP2, t2⟩
  have HP2 := Lib.hid hP2
  have HT2 := Lib.hid (HT1.out.and t2)
  have HL2 := Lib.hid (HL1.out.turn t2 HLX.out)
  clear hP2 t2 c1
  go_wp2_with fail
  refine leaves_cons (f := 19) (args := #[.pointer (some ⟨x.p, 0, none⟩)]) (by simp) (by simp [go_sem]) ?_
  refine (pm_fence_d .returning HP2.out).mono ?_
  rintro e u' w3 ⟨rfl, rfl, hP3, t3⟩
  refine ⟨_, results_none rfl _ _ _, rfl, ⟨?_, HL2.out.turn t3 HLX.out, HLX.out⟩, HT2.out.and t3⟩
  simp only [MS.keep, MS.fence, MS.flush, MS.store]
  rw [HM.out]
  exact hP3

set_option maxHeartbeats 4000000 in
theorem pl_end {w : World} {l : Nat} {x : MB} {s : MS} (h : LG w l x s) :
    Calls Try.prog 65 #[.pointer (some ⟨l, 0, none⟩)] w fun e w' => e = .returned (.int .i64 (lgE s.S : Nat)) ∧ Grow w w' := by
  obtain ⟨hP, hl, hlx⟩ := h
  have c0 := hl.c3.1
  have c1 := hl.c3.2.1
  have HL := Lib.hid hl
  have HP := Lib.hid hP
  have HSL := Lib.hid hP.lenS
  have HE := Lib.hid (lg_head (S := s.S) hP.lenS)
  clear hl hP hlx
  go_enter Try.func65, Try.ntmps65
  go_wp2_with fail
  go_region_held3 (fun w' => w'.cell? ⟨l, 0, none⟩ = some (.pointer (some ⟨x.p, 0, none⟩)) ∧ w'.cell? ⟨l, 1, none⟩ = some (.int .i64 512)) (first | exact ⟨c0, c1⟩ | exact ⟨d0, d1⟩) ((go_at_call 14; refine (pm_load (HP.out.keep ?_) 512 8 (by decide)).mono ?_; (repeat (first | exact Grow.refl _ | refine Grow.drew ?_ | refine Grow.drewN ?_ _)); rintro e w4 ⟨A4, c4, rfl, o4, g4⟩; have G4 : Grow w w4 := Grow.trans (by (repeat (first | exact Grow.refl _ | refine Grow.drew ?_ | refine Grow.drewN ?_ _))) g4; have d0 := G4.cell c0; have d1 := G4.cell c1))
  all_goals
    have c2 := G4.cell HL.out.c3.2.2
    have s4 := o4.sl
    have HG := Lib.hid G4
    clear o4 g4 G4 c0 c1 d0 d1
    go_wp2_with fail
    refine (get_s s4 (by decide) (by decide)).mono ?_
    rintro e w5 ⟨rfl, rfl⟩
    rw [HE.out]
    have hv := get_any s.S 512 8
    obtain ⟨v, hV⟩ : ∃ v, v = getN s.S 512 8 := ⟨_, rfl⟩
    rw [← hV] at hv ⊢
    have HV := Lib.hid hV
    clear hV s4
    by_cases h5 : 504 < v
    · have z1 : decide (504 < v) = true := decide_eq_true h5
      have HR := Lib.hid (show lgE s.S = 0 by rw [lgE, ← HV.out, if_pos h5])
      clear h5
      go_wp2_with fail
      go_ret
      exact ⟨ret_int (by rw [HR.out]; rfl), HG.out⟩
    · have z1 : decide (504 < v) = false := decide_eq_false h5
      have HR := Lib.hid (show (lgE s.S : Int) = v by rw [lgE, ← HV.out, if_neg h5]; omega)
      clear h5
      go_wp2_with fail
      go_ret
      exact ⟨ret_int HR.out.symm, HG.out⟩
end Go.Proofs.Ytlinlmimakealaa
