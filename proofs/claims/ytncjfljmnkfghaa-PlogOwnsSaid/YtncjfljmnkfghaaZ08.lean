/- plog.Decode. What the verbs of a memory do, as plain words over lists. No program here; no statement of the seat is proved here. pmem: Size, within, bytes, Load, Lasts. pmem: Store, keep. No statement of the seat is proved here. -/
import Derived.Test.YtncjfljmnkfghaaZ07
import Derived.Test.YtncjfljmnkfghaaZ06
import Derived.Deep.DeepCutAuto
import Derived.Deep.CutBlock
import Derived.Test.YtncjfljmnkfghaaZ05
namespace Go.Proofs.Ytncjfljmnkfghaa
open Go.RowKit

theorem Row.turn {F : Nat → Prop} {w w' : World} {g : Nat} {vs : List Value} (h : Row w g vs) (t : Turn F w w') (hF : ¬ F g) : Row w' g vs :=
  ⟨⟨Nat.lt_of_lt_of_le h.1.1 t.size, fun j v hv => (t.cell (p := ⟨g, j, none⟩) h.1.1 hF).trans (h.1.2 j v hv)⟩, fun j hj => (t.frozen (p := ⟨g, j, none⟩) h.1.1 hF).trans (h.2 j hj)⟩
theorem Sl.turn' {F : Nat → Prop} {w w' : World} {A : Option Addr} {n : Nat} {bs : List UInt8} (h : Sl w A n bs) (t : Turn F w w') (hA : 0 < n → ∀ p, A = some p → ¬ F p.block) : Sl w' A n bs := by
  obtain ⟨h1, h2, h3, h4⟩ := h
  refine ⟨h1, h2, h3, fun hn => ?_⟩
  obtain ⟨b, o, e, hb, hc⟩ := h4 hn
  exact ⟨b, o, e, Nat.lt_of_lt_of_le hb t.size, fun j u hu => (t.cell (p := ⟨b, o + j, none⟩) hb (hA (by omega) ⟨b, o, none⟩ e)).trans (hc j u hu)⟩

/-- What 'next' has captured: the bytes, the place, whether they end too soon. -/
structure NX (w : World) (gb ga gs : Nat) (A : Option Addr) (n c : Nat) (bs : List UInt8) (a : Int) (sh : Bool) : Prop where
  b : Row w gb [.slice A n c]
  at_ : Row w ga [.int .i64 a]
  short : Row w gs [.bool sh]
  bytes : Sl w A n bs
theorem NX.keep {w w' : World} {gb ga gs n c : Nat} {A : Option Addr} {bs : List UInt8} {a : Int} {sh : Bool} (h : NX w gb ga gs A n c bs a sh) (g : Grow w w') : NX w' gb ga gs A n c bs a sh := ⟨h.b.keep g, h.at_.keep g, h.short.keep g, h.bytes.keep g⟩

set_option maxHeartbeats 2000000 in
theorem pl_next {w : World} {gb ga gs n c : Nat} {A : Option Addr} {bs : List UInt8} {a : Int} {sh : Bool} (h : NX w gb ga gs A n c bs a sh) (h1 : gb ≠ ga) (h2 : gb ≠ gs) (h3 : ga ≠ gs) (hA : 0 < n → ∀ p, A = some p → p.block ≠ ga ∧ p.block ≠ gs) (wd : Int) (ha : 0 ≤ a ∧ a ≤ 2000000000) (hw : 0 ≤ wd ∧ wd ≤ 8) :
    Calls Try.prog 46 #[.int .i64 wd, .pointer (some ⟨gb, 0, none⟩), .pointer (some ⟨ga, 0, none⟩), .pointer (some ⟨gs, 0, none⟩)] w fun e w' =>
      e = .returned (.int .i64 (getN bs a wd)) ∧ NX w' gb ga gs A n c bs (a + wd) (sh || !getK bs a wd) ∧ Turn (fun k => k = ga ∨ k = gs) w w' := by
  have cb := h.b.1.c1
  have ca := h.at_.1.c1
  have cs := h.short.1.c1
  have fa := h.at_.2 0 (by simp)
  have fs := h.short.2 0 (by simp)
  have H := Lib.hid h
  obtain ⟨x0, X0⟩ : ∃ x, Hid (x = getN bs a wd) := ⟨_, Lib.hid rfl⟩
  have HA := Lib.hid hA
  have HNE := Lib.hid (And.intro h1 (And.intro h2 h3))
  clear h hA
  have X : ∀ k, Hid (k = getK bs a wd) → NX ((w.setCell ⟨gs, 0, none⟩ (.bool (sh || !k))).setCell ⟨ga, 0, none⟩ (.int .i64 (a + wd))) gb ga gs A n c bs (a + wd) (sh || !getK bs a wd) ∧ Turn (fun k => k = ga ∨ k = gs) w ((w.setCell ⟨gs, 0, none⟩ (.bool (sh || !k))).setCell ⟨ga, 0, none⟩ (.int .i64 (a + wd))) := by
    intro k hk
    rw [hk.out]
    obtain ⟨h1, h2, h3⟩ := HNE.out
    have t : Turn (fun k => k = ga ∨ k = gs) w ((w.setCell ⟨gs, 0, none⟩ (.bool (sh || !getK bs a wd))).setCell ⟨ga, 0, none⟩ (.int .i64 (a + wd))) := (Turn.setCell _ (.inr rfl) _).and (Turn.setCell _ (.inl rfl) _)
    refine ⟨⟨H.out.b.turn t (by rintro (q | q); exact h1 q; exact h2 q), ?_, ?_, H.out.bytes.turn' t fun h0 p hp q => ?_⟩, t⟩
    · have := ((H.out.at_.set_ne (p := ⟨gs, 0, none⟩) (v := .bool (sh || !getK bs a wd)) (fun q => h3 q.symm)).set (j := 0) (v := .int .i64 (a + wd)) (by simp))
      simpa using this
    · have := ((H.out.short.set (j := 0) (v := .bool (sh || !getK bs a wd)) (by simp)).set_ne (p := ⟨ga, 0, none⟩) (v := .int .i64 (a + wd)) h3)
      simpa using this
    · have := HA.out h0 p hp; rcases q with q | q; exact this.1 q; exact this.2 q
  have HX := Lib.hid X
  clear X h1 h2
  go_enter Try.func46, Try.ntmps46
  go_wp2_with fail
  refine (get_s H.out.bytes (by omega) (by omega)).mono ?_
  rintro e w' ⟨rfl, rfl⟩
  rw [← X0.out]
  obtain ⟨k, K0⟩ : ∃ k, Hid (k = getK bs a wd) := ⟨_, Lib.hid rfl⟩
  rw [← K0.out]
  have Y := HX.out k K0
  have HY := Lib.hid Y
  clear Y HX
  cases sh <;> cases k
  all_goals
    go_wp2_with fail
    go_ret
    exact ⟨ret_int X0.out, HY.out⟩
theorem NX.turn {F : Nat → Prop} {w w' : World} {gb ga gs n c : Nat} {A : Option Addr} {bs : List UInt8} {a : Int} {sh : Bool} (h : NX w gb ga gs A n c bs a sh) (t : Turn F w w') (h1 : ¬ F gb) (h2 : ¬ F ga) (h3 : ¬ F gs) (hA : 0 < n → ∀ p, A = some p → ¬ F p.block) : NX w' gb ga gs A n c bs a sh :=
  ⟨h.b.turn t h1, h.at_.turn t h2, h.short.turn t h3, h.bytes.turn' t hA⟩
def ZerInv2 (b : List UInt8) (a m : Nat) (t : Value) : Prop := ∃ k : Nat, t = .int .i64 (k : Int) ∧ k ≤ m ∧ ∀ i, i < k → b.getD (a + i) 0 = 0
/-- What holds at each round over the patches. -/
def DecInv2 (w wr : World) (base gb ga gs : Nat) (A : Option Addr) (n c : Nat) (b : List UInt8) (N : Nat) (tl ti : Value) : Prop :=
  ∃ (i : Nat) (a : Int) (sh : Bool), ti = .int .i64 (i : Int) ∧ NX wr gb ga gs A n c b a sh ∧ Grow w wr ∧ base ≤ wr.heap.size ∧ i ≤ N ∧
    ((sh = false ∧ ∃ (a' : Nat) (L : List PT), a = (a' : Int) ∧ a' ≤ b.length ∧ L.length = i ∧ DecLink b N i a' L ∧ OP wr base tl L) ∨ (sh = true ∧ dpE b = 3 ∧ 0 ≤ a ∧ a ≤ 1500000000))

set_option maxHeartbeats 8000000 in
set_option maxRecDepth 8000 in
theorem pl_decode {w : World} {A : Option Addr} {n c : Nat} {b : List UInt8} (hs : Sl w A n b) (hc : n ≤ c) :
    Calls Try.prog 17 #[.slice A n c] w fun e w' => DecRes w w' b e := by
  have HL := Lib.hid hs.1
  have HN := Lib.hid (dpN_get b)
  have hnb : n ≤ 1073741000 := hs.2.1
  have HS := Lib.hid hs
  have HAB := Lib.hid (show 0 < n → ∀ p, A = some p → p.block < w.heap.size from fun h0 p hp => by
    obtain ⟨g, o, e, hg, -⟩ := hs.all h0
    rw [e] at hp
    injection hp with hp
    subst hp
    exact hg)
  have hmf : ∀ (fn : Fn) (first cap : Array Value) (w : World), (Instr.makeFunc fn first cap).run Try.prog w = .ok (.func fn first cap) w := fun _ _ _ _ => rfl
  clear hs
  go_enter Try.func17, Try.ntmps17
  go_upto_region 4 with (fail)
  obtain ⟨gs, hgs⟩ : ∃ gs, gs = w.heap.size + 1 + 1 := ⟨_, rfl⟩
  obtain ⟨ga, hga⟩ : ∃ ga, ga = w.heap.size + 1 := ⟨_, rfl⟩
  obtain ⟨gb, hgb⟩ : ∃ gb, gb = w.heap.size := ⟨_, rfl⟩
  obtain ⟨w3, hw3⟩ : ∃ w3, w3 = (((w.alloc (.cells #[.slice A n c] 24)).alloc (.cells #[.int .i64 0] 3)).alloc (.cells #[.bool false] 4)) := ⟨_, rfl⟩
  have G3 : Grow w w3 := by rw [hw3]; exact (((Grow.refl w).alloc _).alloc _).alloc _
  have hsz3 : w3.heap.size = w.heap.size + 3 := by rw [hw3]; simp
  have NX3 : NX w3 gb ga gs A n c b 0 false := by
    have r1 := Row.new w 24 [.slice A n c] _ rfl
    have r2 := Row.new (w.alloc (.cells #[.slice A n c] 24)) 3 [.int .i64 0] _ rfl
    have r3 := Row.new ((w.alloc (.cells #[.slice A n c] 24)).alloc (.cells #[.int .i64 0] 3)) 4 [.bool false] _ rfl
    rw [show (w.alloc (.cells #[.slice A n c] 24)).heap.size = w.heap.size + 1 by simp, ← hga] at r2
    rw [show ((w.alloc (.cells #[.slice A n c] 24)).alloc (.cells #[.int .i64 0] 3)).heap.size = w.heap.size + 1 + 1 by simp, ← hgs, ← hw3] at r3
    rw [← hgb] at r1
    exact ⟨by rw [hw3]; exact r1.keep (((Grow.refl _).alloc _).alloc _), by rw [hw3]; exact r2.keep ((Grow.refl _).alloc _), r3, HS.out.keep G3⟩
  rw [← hw3, ← hgs, ← hga, ← hgb]
  have HNE := Lib.hid (show gb ≠ ga ∧ gb ≠ gs ∧ ga ≠ gs by omega)
  obtain ⟨base, hbase⟩ : ∃ base, base = w3.heap.size := ⟨_, rfl⟩
  have HBB := Lib.hid (show gb < base ∧ ga < base ∧ gs < base ∧ w.heap.size ≤ gb ∧ w.heap.size ≤ ga ∧ w.heap.size ≤ gs ∧ w.heap.size ≤ base by omega)
  have HAA := Lib.hid (show 0 < n → ∀ p, A = some p → p.block ≠ ga ∧ p.block ≠ gs from fun h0 p hp => by have := HAB.out h0 p hp; omega)
  have HN3 := Lib.hid NX3
  have HG3 := Lib.hid G3
  have HB3 := Lib.hid (show base ≤ w3.heap.size by omega)
  have HLOW := Lib.hid (show ∀ (u u' : World) (a : Int) (sh : Bool), Below base u u' → NX u gb ga gs A n c b a sh → NX u' gb ga gs A n c b a sh from fun u u' a sh hb h =>
    h.turn (F := fun k => base ≤ k) ⟨hb.os, hb.tape, hb.output, hb.size, fun i hi hn => hb.block i (by omega)⟩ (by have := HBB.out; omega) (by have := HBB.out; omega) (by have := HBB.out; omega) (fun h0 p hp => by have := HAB.out h0 p hp; have := HBB.out; omega))
  have HTUR := Lib.hid (show ∀ (u u' : World), Grow w u → Turn (fun k => k = ga ∨ k = gs) u u' → Grow w u' from fun u u' g t => g.low (t.low (B := w.heap.size) (fun i q => by have := HBB.out; omega) g.size))
  clear NX3 G3 hsz3 hw3 hga hgb hgs hbase
  go_wp2_with fail
  refine (pl_next HN3.out HNE.out.1 HNE.out.2.1 HNE.out.2.2 HAA.out 2 (by omega) (by omega)).mono ?_
  rintro e w4 ⟨rfl, hN4, t4⟩
  rw [Int.zero_add, Bool.false_or] at hN4
  have HG4 := Lib.hid (HTUR.out _ _ HG3.out t4)
  have HZ4 := Lib.hid (Nat.le_trans HB3.out t4.size)
  have hbN := dpN_lt b
  obtain ⟨N, hN⟩ : ∃ N, N = dpN b := ⟨_, rfl⟩
  rw [← hN] at hbN HN
  have HNN := Lib.hid hN
  rw [HN.out]
  clear hN t4
  by_cases h64 : 64 < N
  · have h2 : ¬ n < 2 := fun q => by
      have h0 : getN b 0 2 = 0 := get_no (getK_out (b := b) (a := 0) (wd := 2) (by rw [HL.out]; omega))
      have := HN.out
      omega
    have HE := Lib.hid (show dpE b = 2 by rw [dpE, if_neg (by rw [HL.out]; exact h2), if_pos (by rw [← HNN.out]; exact h64)])
    have z1 : decide ((64 : Int) < (N : Int)) = true := decide_eq_true (by omega)
    have z2 : decide (64 < N) = true := decide_eq_true h64
    go_wp2_with fail
    go_ret3
    exact .bad HE.out (by decide) HG4.out
  · have z1 : decide ((64 : Int) < (N : Int)) = false := decide_eq_false (by omega)
    have z2 : decide (64 < N) = false := decide_eq_false h64
    have HI : DecInv2 w w4 base gb ga gs A n c b N (.slice none 0 0) (.int .i64 0) := by
      refine ⟨0, 2, _, rfl, hN4, HG4.out, HZ4.out, Nat.zero_le _, ?_⟩
      by_cases h2 : n < 2
      · exact .inr ⟨by rw [show getK b 0 2 = false from getK_out (b := b) (a := 0) (wd := 2) (by rw [HL.out]; omega)]; rfl, by rw [dpE, if_pos (by rw [HL.out]; exact h2)], by omega, by omega⟩
      · exact .inl ⟨by rw [show getK b 0 2 = true from getK_small (b := b) (a := 0) (wd := 2) (.inr (.inl rfl)) (by rw [HL.out]; omega)]; rfl, 2, [], rfl, by rw [HL.out]; omega, rfl, DecLink.start _ _, OP.nil _ _⟩
    have HI0 := Lib.hid HI
    clear HI hN4 HN3 HG3 HB3
    go_wp2_with fail
    go_loopw [8, 10] (fun tl ti wr => DecInv2 w wr base gb ga gs A n c b N tl ti) (fun _ ti _ => N - (intOf ti).toNat)
    case atStart => exact HI0.out
    case round =>
      obtain ⟨i, a, sh, rfl, hnx, hg, hbz, hi, hor⟩ := hrel
      have HX := Lib.hid hnx
      have HG := Lib.hid hg
      have HBZ := Lib.hid hbz
      have csh := hnx.short.1.c1
      clear hnx hg hbz HI0
      rcases hor with ⟨rfl, a', L, rfl, ha, hLi, hlk, hop⟩ | ⟨rfl, hE, ha0, ha1⟩
      · have HLK := Lib.hid hlk
        have HOP := Lib.hid hop
        have HLI := Lib.hid hLi
        rw [HL.out] at ha
        clear hlk hop hLi
        by_cases hlt : i < N
        · go_wp2_with fail
          refine (pl_next HX.out HNE.out.1 HNE.out.2.1 HNE.out.2.2 HAA.out 4 (by omega) (by omega)).mono ?_
          rintro e w5 ⟨rfl, hN5, t5⟩
          rw [Bool.false_or] at hN5
          have HG5 := Lib.hid (HTUR.out _ _ HG.out t5)
          have HT5 := Lib.hid t5
          obtain ⟨x0, X0⟩ : ∃ x, Hid (x = getN b (a' : Int) 4) := ⟨_, Lib.hid rfl⟩
          rw [← X0.out]
          have HN5 := Lib.hid hN5
          clear hN5 t5 csh
          go_upto_region 11 with (fail)
          have R6 := Row.new w5 50 [.int .i64 x0, .string ⟨#[]⟩] _ rfl
          have GA := (Grow.refl w5).alloc (.cells #[.int .i64 x0, .string ⟨#[]⟩] 50)
          have HGP := Lib.hid (show base ≤ w5.heap.size from Nat.le_trans HBZ.out HT5.out.size)
          obtain ⟨gp, hgp⟩ : ∃ gp, gp = w5.heap.size := ⟨_, rfl⟩
          obtain ⟨w6, hw6⟩ : ∃ w6, w6 = w5.alloc (.cells #[.int .i64 x0, .string ⟨#[]⟩] 50) := ⟨_, rfl⟩
          rw [← hw6] at R6 GA ⊢
          rw [← hgp] at R6 HGP ⊢
          have HN6 := Lib.hid (HN5.out.keep GA)
          have HG6 := Lib.hid (HG5.out.trans GA)
          have HO5 := HOP.out.turn HT5.out (fun g hg q => by have := (World.ownsRow.lt HOP.out g hg).1; have := HBB.out; omega)
          have HLP := Lib.hid (show ∀ q, u8.ownBlock = some q → q < gp from fun q hq => by rw [hgp]; exact (World.ownsRow.lt HO5 q hq).2)
          have HO6 := Lib.hid (HO5.keep GA)
          have HR6 := Lib.hid R6
          clear hgp hw6 R6 GA HOP HN5 HT5 HO5
          go_wp2_with fail
          refine (pl_next HN6.out HNE.out.1 HNE.out.2.1 HNE.out.2.2 HAA.out 2 (by omega) (by omega)).mono ?_
          rintro e w7 ⟨rfl, hN7, t7⟩
          obtain ⟨k, K0⟩ : ∃ k, Hid (k = ptK b a') := ⟨_, Lib.hid rfl⟩
          rw [ptK_get, ← K0.out]
          have HG7 := Lib.hid (HTUR.out _ _ HG6.out t7)
          have HR7 := Lib.hid (HR6.out.turn t7 (by have := HGP.out; have := HBB.out; omega))
          have HO7 := Lib.hid (HO6.out.turn t7 (fun g hg q => by have := (World.ownsRow.lt HO6.out g hg).1; have := HBB.out; omega))
          have HZ7 := Lib.hid (show base ≤ w7.heap.size from Nat.le_trans (Nat.le_of_lt (Nat.lt_of_le_of_lt HGP.out HR6.out.1.1)) t7.size)
          clear t7 HN6 HO6 HR6
          by_cases h6 : n < a' + 6
          · have HE := Lib.hid (dpE_rd (by
                rw [HL.out]
                apply Decidable.byContradiction
                intro q
                have h0 : getN b 0 2 = 0 := get_no (getK_out (b := b) (a := 0) (wd := 2) (by rw [HL.out]; omega))
                have := HN.out
                omega) (by rw [← HNN.out]; omega) (by rw [← HNN.out]; exact HLK.out.short hlt (by rw [HL.out]; exact h6)) (show (3 : Int) ≠ 0 by decide))
            rw [getK2_out (by rw [HL.out]; exact h6), Bool.not_false, Bool.or_true] at hN7
            have X : DecInv2 w w7 base gb ga gs A n c b N u8 (.int .i64 ((i : Int) + 1)) := ⟨i + 1, _, true, by simp, hN7, HG7.out, HZ7.out, hlt, .inr ⟨rfl, HE.out, by omega, by omega⟩⟩
            have HX7 := Lib.hid X
            have s7 := hN7.short.1.c1
            have e5 := wrap_smallR (show i < 64 by omega)
            clear hN7 X
            go_wp2_with fail
            go_roundw
            case rel => (try rw [e5]); first | exact HX7.out | ((repeat apply Exists.intro); exact HX7.out) | ((repeat apply Exists.intro); refine ⟨HX7.out, ?_⟩; rfl)
            case measure => first | exact measR hlt | exact measRW hlt e5
          · rw [getK2 (by rw [HL.out]; omega), getK4 (by rw [HL.out]; omega)] at hN7
            obtain ⟨a6, e6⟩ : ∃ a6 : Nat, (a' : Int) + 4 + 2 = (a6 : Int) := ⟨a' + 6, by simp; omega⟩
            have ha6 : a6 = a' + 6 := by omega
            rw [e6] at hN7
            have hkl := ptK_lt b a'
            rw [← K0.out] at hkl
            have HN7 := Lib.hid (show NX w7 gb ga gs A n c b (a6 : Int) false from hN7)
            have s7 := HN7.out.short.1.c1
            have b7 := HN7.out.b.1.c1
            have c7 := HN7.out.at_.1.c1
            have f7 := HN7.out.short.2 0 (by simp)
            have H2N := Lib.hid (show 2 ≤ b.length by rw [HL.out]; omega)
            clear hN7
            by_cases hk : 256 < k
            · have HE := Lib.hid (dpE_rd H2N.out (by rw [← HNN.out]; omega) (by rw [← HNN.out]; exact HLK.out.odd hlt (by rw [HL.out]; omega) (by rw [← K0.out]; exact hk)) (show (2 : Int) ≠ 0 by decide))
              have y1 : decide (256 < k) = true := decide_eq_true hk
              have y2 : decide ((256 : Int) < (k : Int)) = true := decide_eq_true (by omega)
              go_wp2_with fail
              go_ret3
              exact .bad HE.out (by decide) HG7.out
            · have y1 : decide (256 < k) = false := decide_eq_false hk
              have y2 : decide ((256 : Int) < (k : Int)) = false := decide_eq_false (by omega)
              by_cases h7 : n < a6 + k
              · have HE := Lib.hid (dpE_rd H2N.out (by rw [← HNN.out]; omega) (by rw [← HNN.out]; exact HLK.out.less hlt (by rw [HL.out]; omega) (by rw [← K0.out]; omega) (by rw [← K0.out, HL.out]; omega)) (show (3 : Int) ≠ 0 by decide))
                have y3 : decide ((n : Int) - (a6 : Int) < (k : Int)) = true := decide_eq_true (by omega)
                have tS : Turn (fun q => q = ga ∨ q = gs) w7 (w7.setCell ⟨gs, 0, none⟩ (.bool true)) := Turn.setCell _ (.inr rfl) _
                have X : DecInv2 w (w7.setCell ⟨gs, 0, none⟩ (.bool true)) base gb ga gs A n c b N u8 (.int .i64 ((i : Int) + 1)) := by
                  refine ⟨i + 1, (a6 : Int), true, by simp, ⟨HN7.out.b.set_ne HNE.out.2.1.symm, HN7.out.at_.set_ne HNE.out.2.2.symm, ?_, HN7.out.bytes.turn' tS fun h0 p hp q => by have := HAA.out h0 p hp; rcases q with q | q; exact this.1 q; exact this.2 q⟩, HTUR.out _ _ HG7.out tS, by simpa using HZ7.out, hlt, .inr ⟨rfl, HE.out, by omega, by omega⟩⟩
                  have := HN7.out.short.set (j := 0) (v := .bool true) (by simp)
                  simpa using this
                have HX7 := Lib.hid X
                have e5 := wrap_smallR (show i < 64 by omega)
                clear X tS
                go_wp2_with fail
                go_roundw
                case rel => (try rw [e5]); first | exact HX7.out | ((repeat apply Exists.intro); exact HX7.out) | ((repeat apply Exists.intro); refine ⟨HX7.out, ?_⟩; rfl)
                case measure => first | exact measR hlt | exact measRW hlt e5
              · have y3 : decide ((n : Int) - (a6 : Int) < (k : Int)) = false := decide_eq_false (by omega)
                obtain ⟨z, ez⟩ : ∃ z : Nat, (a6 : Int) + (k : Int) = (z : Int) := ⟨a6 + k, by simp⟩
                have hz : z = a6 + k := by omega
                have i1 : a6 ≤ z := by omega
                have i2 : z ≤ c := by omega
                have i3 : z ≤ n := by omega
                have i4 : a6 ≤ c := by omega
                have zk : z - a6 = k := by omega
                have HST := Lib.hid (HLK.out.step hlt (by rw [← K0.out, HL.out]; omega) (by rw [← K0.out]; omega))
                obtain ⟨r, hr⟩ : ∃ r, r = ptAt b a' := ⟨_, rfl⟩
                have hr0 : r.pos = x0 := by rw [hr, X0.out]; rfl
                have HXX := Lib.hid (show a' + 6 + ptK b a' = z by rw [← K0.out]; omega)
                rw [HXX.out, ← hr] at HST
                obtain ⟨g, o, rfl, -, -⟩ := HN7.out.bytes.all (by omega)
                have hsd := (HN7.out.bytes.drop (k := a6) (c := c) (by omega) hc).take (k := k) (by omega)
                have hsv : ((b.drop a6).take k).toArray = r.dat.data := by rw [hr, ptAt, K0.out, ha6]
                have cv : ∀ c', (convert 24 9 (.slice (if c = a6 then some ⟨g, o, none⟩ else (some (⟨g, o, none⟩ : Addr)).map (·.add a6)) k c')).run Try.prog w7 = .ok (.string r.dat) w7 := fun c' => by
                  have := conv_s (c := c') hsd
                  rwa [hsv] at this
                have HLL := Lib.hid (show L.length + 1 ≤ 1000000 by rw [HLI.out]; omega)
                subst hr0
                have d0 := HR7.out.1.c2.1
                have d1 := HR7.out.1.c2.2
                have fd1 := HR7.out.2 1 (by simp)
                have fa7 := HN7.out.at_.2 0 (by simp)
                have hne1 : gp ≠ ga := by have := HGP.out; have := HBB.out; omega
                have hne2 : ga ≠ gp := hne1.symm
                have hne3 : gp ≠ gb := by have := HGP.out; have := HBB.out; omega
                have hne4 : gp ≠ gs := by have := HGP.out; have := HBB.out; omega
                have tS : Turn (fun q => q = gp ∨ q = ga) w7 ((w7.setCell ⟨gp, 1, none⟩ (.string r.dat)).setCell ⟨ga, 0, none⟩ (.int .i64 (z : Int))) := (Turn.setCell _ (.inl rfl) _).and (Turn.setCell _ (.inr rfl) _)
                have HR8 := Lib.hid (show Row ((w7.setCell ⟨gp, 1, none⟩ (.string r.dat)).setCell ⟨ga, 0, none⟩ (.int .i64 (z : Int))) gp [.int .i64 r.pos, .string r.dat] by
                  have := ((HR7.out.set (j := 1) (v := .string r.dat) (by simp)).set_ne (p := ⟨ga, 0, none⟩) (v := .int .i64 (z : Int)) hne2)
                  simpa using this)
                have HN8 := Lib.hid (show NX ((w7.setCell ⟨gp, 1, none⟩ (.string r.dat)).setCell ⟨ga, 0, none⟩ (.int .i64 (z : Int))) gb ga gs (some ⟨g, o, none⟩) n c b (z : Int) false by
                  refine ⟨HN7.out.b.turn tS (by rintro (q | q); exact hne3 q.symm; exact HNE.out.1 q), ?_, HN7.out.short.turn tS (by rintro (q | q); exact hne4 q.symm; exact HNE.out.2.2 q.symm), HN7.out.bytes.turn' tS fun h0 p hp q => ?_⟩
                  · have := ((HN7.out.at_.set_ne (p := ⟨gp, 1, none⟩) (v := .string r.dat) hne1).set (j := 0) (v := .int .i64 (z : Int)) (by simp))
                    simpa using this
                  · rcases q with q | q
                    · have := HAB.out h0 p hp; have := HGP.out; have := HBB.out; omega
                    · exact (HAA.out h0 p hp).1 q)
                have HO8 := Lib.hid (HO7.out.turn tS (fun q hq hf => by
                  have := (World.ownsRow.lt HO7.out q hq).1
                  rcases hf with hf | hf
                  · have := HLP.out q hq; omega
                  · have := HBB.out; omega))
                have HG8 := Lib.hid (HG7.out.low (tS.low (B := w.heap.size) (fun i q => by have := HBB.out; have := HGP.out; omega) HG7.out.size))
                have HZ8 := Lib.hid (Nat.le_trans HZ7.out tS.size)
                clear hr hsv hsd ha6 hz tS
                by_cases hca : c = a6
                · simp only [if_pos hca] at cv
                  go_upto_region 14 with (fail)
                  obtain ⟨w8, hw8⟩ : ∃ w8, w8 = (w7.setCell ⟨gp, 1, none⟩ (.string r.dat)).setCell ⟨ga, 0, none⟩ (.int .i64 (z : Int)) := ⟨_, rfl⟩
                  rw [← hw8] at HR8 HN8 HO8 HG8 HZ8 ⊢
                  clear hw8 cv d0 d1 fd1 fa7 s7 b7 c7 f7 HN7 HR7 HO7 HG7 HZ7
                  have d0 := HR8.out.1.c2.1
                  have d1 := HR8.out.1.c2.2
                  go_wp2_with (at_builtin; refine wpList_appP1 rfl (.tmp 48) (.tmp 50) rfl base _ L rfl r (by first | rfl | simp) HO8.out HLL.out HZ8.out ?_; intro v2 w9 q1 q2)
                  have X : DecInv2 w w9 base gb ga gs (some ⟨g, o, none⟩) n c b N v2 (.int .i64 ((i : Int) + 1)) := ⟨i + 1, (z : Int), false, by simp, HLOW.out _ _ _ _ q2 HN8.out, HG8.out.low (q2.mono (by have := HBB.out; omega)), Nat.le_trans HZ8.out q2.size, hlt, .inl ⟨rfl, z, L ++ [r], rfl, by rw [HL.out]; exact i3, by simp [HLI.out], HST.out, q1⟩⟩
                  have HX9 := Lib.hid X
                  have e5 := wrap_smallR (show i < 64 by omega)
                  clear X q1 q2 ez e6
                  try rw [← hca]
                  clear hca
                  go_roundw
                  case rel => (try rw [e5]); first | exact HX9.out | ((repeat apply Exists.intro); exact HX9.out) | ((repeat apply Exists.intro); refine ⟨HX9.out, ?_⟩; rfl)
                  case measure => first | exact measR hlt | exact measRW hlt e5
                · simp only [if_neg hca, Option.map_some, Addr.add_lit] at cv
                  go_upto_region 14 with (fail)
                  obtain ⟨w8, hw8⟩ : ∃ w8, w8 = (w7.setCell ⟨gp, 1, none⟩ (.string r.dat)).setCell ⟨ga, 0, none⟩ (.int .i64 (z : Int)) := ⟨_, rfl⟩
                  rw [← hw8] at HR8 HN8 HO8 HG8 HZ8 ⊢
                  clear hw8 cv d0 d1 fd1 fa7 s7 b7 c7 f7 HN7 HR7 HO7 HG7 HZ7
                  have d0 := HR8.out.1.c2.1
                  have d1 := HR8.out.1.c2.2
                  go_wp2_with (at_builtin; refine wpList_appP1 rfl (.tmp 48) (.tmp 50) rfl base _ L rfl r (by first | rfl | simp) HO8.out HLL.out HZ8.out ?_; intro v2 w9 q1 q2)
                  have X : DecInv2 w w9 base gb ga gs (some ⟨g, o, none⟩) n c b N v2 (.int .i64 ((i : Int) + 1)) := ⟨i + 1, (z : Int), false, by simp, HLOW.out _ _ _ _ q2 HN8.out, HG8.out.low (q2.mono (by have := HBB.out; omega)), Nat.le_trans HZ8.out q2.size, hlt, .inl ⟨rfl, z, L ++ [r], rfl, by rw [HL.out]; exact i3, by simp [HLI.out], HST.out, q1⟩⟩
                  have HX9 := Lib.hid X
                  have e5 := wrap_smallR (show i < 64 by omega)
                  clear X q1 q2 ez e6
                  try rw [← hca]
                  clear hca
                  go_roundw
                  case rel => (try rw [e5]); first | exact HX9.out | ((repeat apply Exists.intro); exact HX9.out) | ((repeat apply Exists.intro); refine ⟨HX9.out, ?_⟩; rfl)
                  case measure => first | exact measR hlt | exact measRW hlt e5
        · obtain rfl : i = N := by omega
          obtain ⟨d1, d2, d3⟩ := HLK.out.done
          have HRE := Lib.hid d1
          have HZ := Lib.hid (show dpZ b = a' by rw [dpZ, ← HNN.out]; exact d2)
          have HLR := Lib.hid (show L = rdL b (dpN b) 2 by rw [← HNN.out]; exact d3)
          by_cases h2 : n < 2
          · exfalso
            have h0 : getN b 0 2 = 0 := get_no (getK_out (b := b) (a := 0) (wd := 2) (by rw [HL.out]; omega))
            have h1 := HN.out
            have h3 : i = 0 := by omega
            have := HLK.out.2.1
            rw [h3] at d2
            have h5 : a' = 2 := d2.symm
            omega
          have HE0 := Lib.hid (show dpE b = if b.length < a' + 4 then 3 else if getN b (a' : Int) 4 ≠ (crcN (b.take a') : Nat) then 4 else if b.length < dpF b then 3 else if zerosB b (a' + 4) (dpF b) = true then 0 else 2 by
            rw [dpE, if_neg (by rw [HL.out]; omega), if_neg (by rw [← HNN.out]; omega), if_neg (by rw [← HNN.out, HRE.out]; simp), HZ.out])
          have HFF := Lib.hid (show dpF b = a' + 4 + fillN (a' + 4) by rw [dpF, HZ.out])
          have cat := HX.out.at_.1.c1
          clear d1 d2 d3
          go_wp2_with fail
          refine (pl_next HX.out HNE.out.1 HNE.out.2.1 HNE.out.2.2 HAA.out 4 (by omega) (by omega)).mono ?_
          rintro e w5 ⟨rfl, hN5, t5⟩
          rw [Bool.false_or] at hN5
          have HG5 := Lib.hid (HTUR.out _ _ HG.out t5)
          have HO5 := Lib.hid (HOP.out.turn t5 (fun g hg q => by have := (World.ownsRow.lt HOP.out g hg).1; have := HBB.out; omega))
          obtain ⟨x0, X0⟩ : ∃ x, Hid (x = getN b (a' : Int) 4) := ⟨_, Lib.hid rfl⟩
          rw [← X0.out]
          obtain ⟨a4, e4⟩ : ∃ a4 : Nat, (a' : Int) + 4 = (a4 : Int) := ⟨a' + 4, by simp⟩
          have ha4 : a' + 4 = a4 := by omega
          rw [e4] at hN5
          have c5 := hN5.at_.1.c1
          have b5 := hN5.b.1.c1
          have HN5 := Lib.hid hN5
          clear hN5 t5 csh cat e4
          go_wp2_with fail
          refine (num_up _ _ _).mono ?_
          rintro e w' ⟨rfl, rfl⟩
          rw [up_fillP a4 (by omega)]
          obtain ⟨M, hM⟩ : ∃ M, M = a4 + fillN a4 := ⟨_, rfl⟩
          rw [show (a4 : Int) + (fillN a4 : Nat) = (M : Int) by rw [hM]; simp]
          rw [ha4, ← hM] at HFF
          rw [ha4] at HE0
          have hMa : a4 ≤ M := by omega
          have hMb : M ≤ 1073741100 := by have := fill_ltP a4; omega
          clear hM
          by_cases h4 : n < a4
          · have s5 := HN5.out.short.1.c1
            rw [show getK b (a' : Int) 4 = false from getK_out (wd := 4) (by rw [HL.out]; omega)] at s5
            simp only [Bool.not_false] at s5
            have HE := Lib.hid (show dpE b = 3 by rw [HE0.out, if_pos (by rw [HL.out]; exact h4)])
            go_wp2_with fail
            go_ret3
            exact .bad HE.out (by decide) HG5.out
          · have s5 := HN5.out.short.1.c1
            rw [show getK b (a' : Int) 4 = true from getK4 (by rw [HL.out]; omega)] at s5
            simp only [Bool.not_true] at s5
            have HE1 := Lib.hid (show dpE b = if getN b (a' : Int) 4 ≠ (crcN (b.take a') : Nat) then 4 else if b.length < dpF b then 3 else if zerosB b a4 (dpF b) = true then 0 else 2 by rw [HE0.out, if_neg (by rw [HL.out]; exact h4)])
            have i1 : a' ≤ c := by omega
            obtain ⟨g, o, rfl, -, hcell⟩ := HS.out.all (by omega)
            have HC := Lib.hid (show ∀ k, k < n → w.cell? ⟨g, o + k, none⟩ = some (.int .u8 ((b.getD k 0).toNat : Int)) from fun k hk => by
              rw [hcell k hk, List.getD_eq_getElem?_getD, List.getElem?_eq_getElem (by rw [HL.out]; exact hk)]; rfl)
            clear HE0 hcell
            go_wp2_with fail
            refine (sum_s (HN5.out.bytes.take (k := a') (by omega))).mono ?_
            rintro e w6 ⟨q, rfl, hq, hq1, g6⟩
            have HG6 := Lib.hid (HG5.out.trans g6)
            have HO6 := Lib.hid (HO5.out.keep g6)
            have HN6 := Lib.hid (HN5.out.keep g6)
            have c6 := HN6.out.at_.1.c1
            have b6 := HN6.out.b.1.c1
            clear g6 c5 b5 s5 HN5 HO5 HG5
            by_cases hsum : x0 = (q : Int)
            · have hne : (x0 != (q : Int)) = false := by rw [bne_eq_false_iff_eq]; exact hsum
              have HE2 := Lib.hid (show dpE b = if b.length < dpF b then 3 else if zerosB b a4 (dpF b) = true then 0 else 2 by rw [HE1.out, if_neg (by rw [← X0.out, hsum, hq.out]; simp)])
              clear hsum hq HE1
              by_cases hnM : n < M
              · have HE := Lib.hid (show dpE b = 3 by rw [HE2.out, if_pos (by rw [HL.out, HFF.out]; exact hnM)])
                have y1 : decide (n < M) = true := decide_eq_true hnM
                have y2 : decide ((n : Int) < (M : Int)) = true := decide_eq_true (by omega)
                go_wp2_with fail
                go_ret3
                exact .bad HE.out (by decide) HG6.out
              · have HE3 := Lib.hid (show dpE b = if zerosB b a4 M = true then 0 else 2 by rw [HE2.out, if_neg (by rw [HL.out, HFF.out]; exact hnM), HFF.out])
                have y1 : decide (n < M) = false := decide_eq_false hnM
                have y2 : decide ((n : Int) < (M : Int)) = false := decide_eq_false (by omega)
                have j1 : M ≤ c := by omega
                have j2 : a4 ≤ c := by omega
                obtain ⟨f, hf⟩ : ∃ f, M - a4 = f := ⟨_, rfl⟩
                clear HE2
                by_cases hca : c = a4
                · obtain rfl : f = 0 := by omega
                  have HE := Lib.hid (show dpE b = 0 by
                    rw [HE3.out, if_pos]
                    rw [zeros_iff (by rw [HL.out]; omega)]
                    intro i h1 h2
                    omega)
                  go_wp2_with fail
                  go_loopw [89] (fun t wr' => t = .int .i64 0 ∧ wr' = w6) (fun t _ => 0)
                  case atStart => exact ⟨rfl, rfl⟩
                  case round =>
                    obtain ⟨rfl, rfl⟩ := hrel
                    go_wp2_with fail
                    go_ret3
                    refine ⟨_, ?_, (by rw [dpL, if_pos HE.out, ← HLR.out]; exact HO6.out.low (by have := HBB.out; omega)), HG6.out⟩
                    rw [HE.out, dpU, if_pos HE.out, HFF.out]; rfl
                · go_wp2_with fail
                  go_loopw [89] (fun t wr' => ZerInv2 b a4 f t ∧ wr' = w6) (fun t _ => f - (intOf t).toNat)
                  case atStart => exact ⟨⟨0, rfl, Nat.zero_le _, fun i h1 => by omega⟩, rfl⟩
                  case round =>
                    obtain ⟨⟨k, rfl, hk2, hz⟩, rfl⟩ := hrel
                    have HZZ := Lib.hid hz
                    clear hz
                    by_cases hkM : k < f
                    · have hc := HG6.out.cell (HC.out (a4 + k) (by omega))
                      obtain ⟨u, hu⟩ : ∃ u : Int, u = ((b.getD (a4 + k) 0).toNat : Int) := ⟨_, rfl⟩
                      rw [← hu, ← Nat.add_assoc] at hc
                      have HU := Lib.hid hu
                      have hkn : a4 + k < n := by omega
                      have z5 : decide ((k : Int) < (f : Int)) = true := decide_eq_true (by omega)
                      clear hu
                      by_cases h0 : u = 0
                      · have h0' : (u != 0) = false := by rw [bne_eq_false_iff_eq]; exact h0
                        have X : ZerInv2 b a4 f (.int .i64 ((k : Int) + 1)) := ⟨k + 1, by simp, hkM, fun i h1 => by
                          by_cases e : i = k
                          · subst e
                            apply UInt8.toNat_inj.1
                            have := HU.out
                            rw [h0] at this
                            simp at this ⊢
                            omega
                          · exact HZZ.out i (by omega)⟩
                        have HXX := Lib.hid X
                        have HMS := Lib.hid (show f - (intOf (.int .i64 ((k : Int) + 1))).toNat < f - (intOf (.int .i64 (k : Int))).toNat from measR hkM)
                        clear X h0
                        go_wp2_with fail
                        go_roundw
                        case rel => first | exact ⟨HXX.out, rfl⟩ | exact ⟨HXX.out, trivial⟩ | exact HXX.out
                        case measure => exact HMS.out
                      · have h0' : (u != 0) = true := by rw [bne_iff_ne]; exact h0
                        have HE := Lib.hid (show dpE b = 2 by
                          rw [HE3.out, if_neg]
                          intro q
                          rw [zeros_iff (by rw [HL.out]; omega)] at q
                          have := q (a4 + k) (by omega) (by omega)
                          apply h0
                          rw [HU.out, List.getD_eq_getElem?_getD, List.getElem?_eq_getElem (by rw [HL.out]; exact hkn)]
                          simp [this])
                        clear h0
                        go_wp2_with fail
                        go_ret3
                        exact .bad HE.out (by decide) HG6.out
                    · have hkf : k = f := by omega
                      have HE := Lib.hid (show dpE b = 0 by
                        rw [HE3.out, if_pos]
                        rw [zeros_iff (by rw [HL.out]; omega)]
                        intro i h1 h2
                        have := HZZ.out (i - a4) (by omega)
                        rw [show a4 + (i - a4) = i by omega, List.getD_eq_getElem?_getD, List.getElem?_eq_getElem (by rw [HL.out]; omega)] at this
                        simpa using this)
                      have z5 : decide ((k : Int) < (f : Int)) = false := decide_eq_false (by omega)
                      have z6 : decide (k < f) = false := decide_eq_false hkM
                      clear hkf hf
                      go_wp2_with fail
                      go_ret3
                      refine ⟨_, ?_, (by rw [dpL, if_pos HE.out, ← HLR.out]; exact HO6.out.low (by have := HBB.out; omega)), HG6.out⟩
                      rw [HE.out, dpU, if_pos HE.out, HFF.out]; rfl
            · have hne : (x0 != (q : Int)) = true := by rw [bne_iff_ne]; exact hsum
              have HE := Lib.hid (show dpE b = 4 by rw [HE1.out, if_pos (by rw [← X0.out, ← hq.out]; exact hsum)])
              clear hsum
              go_wp2_with fail
              go_ret3
              exact .bad HE.out (by decide) HG6.out
      · have HE := Lib.hid hE
        have cat := HX.out.at_.1.c1
        clear hE
        by_cases hlt : i < N
        all_goals
          go_wp2_with fail
          refine (pl_next HX.out HNE.out.1 HNE.out.2.1 HNE.out.2.2 HAA.out 4 (by omega) (by omega)).mono ?_
          rintro e w5 ⟨rfl, hN5, t5⟩
          rw [Bool.true_or] at hN5
          have HG5 := Lib.hid (HTUR.out _ _ HG.out t5)
          have c5 := hN5.at_.1.c1
          have s5 := hN5.short.1.c1
          obtain ⟨x0, X0⟩ : ∃ x, Hid (x = getN b a 4) := ⟨_, Lib.hid rfl⟩
          rw [← X0.out]
          clear hN5 t5 csh cat
          go_wp2_with fail
          refine (num_up _ _ _).mono ?_
          rintro e w' ⟨rfl, rfl⟩
          obtain ⟨x1, X1⟩ : ∃ x, Hid (x = upN (a + 4) 8) := ⟨_, Lib.hid rfl⟩
          rw [← X1.out]
          go_wp2_with fail
          go_ret3
          exact .bad HE.out (by decide) HG5.out
end Go.Proofs.Ytncjfljmnkfghaa

namespace Go.Proofs.Ytncjfljmnkfghaa

def inW (L : Nat) (at_ n : Int) : Bool := decide (0 ≤ at_ ∧ 0 ≤ n ∧ at_ + n ≤ (L : Int))
theorem inW_iff {L : Nat} {at_ n : Int} : inW L at_ n = true ↔ 0 ≤ at_ ∧ 0 ≤ n ∧ at_ + n ≤ (L : Int) := by simp [inW]

/-- Bytes put one by one. -/
def putL (S : List UInt8) (i : Nat) : List UInt8 → List UInt8
  | [] => S
  | u :: bs => putL (S.set i u) (i + 1) bs
theorem putL_snoc (bs : List UInt8) (u : UInt8) : ∀ (S : List UInt8) (i : Nat), putL S i (bs ++ [u]) = (putL S i bs).set (i + bs.length) u := by
  induction bs with
  | nil => intro S i; rfl
  | cons v bs ih =>
    intro S i
    simp only [List.cons_append, putL, ih, List.length_cons]
    rw [show i + 1 + bs.length = i + (bs.length + 1) by omega]
theorem putL_length (bs : List UInt8) : ∀ (S : List UInt8) (i : Nat), (putL S i bs).length = S.length := by
  induction bs with
  | nil => intro S i; rfl
  | cons v bs ih => intro S i; simp [putL, ih]
theorem putL_take {S bs : List UInt8} {i k : Nat} (hk : k < bs.length) : putL S i (bs.take (k + 1)) = (putL S i (bs.take k)).set (i + k) bs[k] := by
  rw [List.take_succ_eq_append_getElem hk, putL_snoc, List.length_take, Nat.min_eq_left (by omega)]
/-- The cells of bytes that were put are no longer on their way. -/
def clrL (A : List Bool) (i : Nat) : Nat → List Bool
  | 0 => A
  | n + 1 => (clrL A i n).set ((i + n) / 8) false
theorem clrL_length (A : List Bool) (i n : Nat) : (clrL A i n).length = A.length := by
  induction n with
  | zero => rfl
  | succ n ih => simp [clrL, ih]

/-- Bytes as they are seen go where they last. -/
def keepN (S T : List UInt8) (i : Nat) : Nat → List UInt8
  | 0 => T
  | n + 1 => (keepN S T i n).set (i + n) (S.getD (i + n) 0)
theorem keepN_length (S T : List UInt8) (i n : Nat) : (keepN S T i n).length = T.length := by
  induction n with
  | zero => rfl
  | succ n ih => simp [keepN, ih]
theorem keepN_get (S T : List UInt8) (i n j : Nat) (hj : j < T.length) : (keepN S T i n).getD j 0 = if i ≤ j ∧ j < i + n then S.getD j 0 else T.getD j 0 := by
  induction n with
  | zero => rw [keepN, if_neg (by omega)]
  | succ n ih =>
    have hl := keepN_length S T i n
    rw [keepN, List.getD_eq_getElem?_getD]
    by_cases e : i + n = j
    · subst e
      rw [List.getElem?_set_self (by omega), if_pos (by omega)]
      rfl
    · rw [List.getElem?_set_ne e, ← List.getD_eq_getElem?_getD, ih]
      by_cases h : i ≤ j ∧ j < i + n
      · rw [if_pos h, if_pos (by omega)]
      · rw [if_neg h, if_neg (by omega)]
theorem ext_getD {A B : List UInt8} (hl : A.length = B.length) (h : ∀ j, j < A.length → A.getD j 0 = B.getD j 0) : A = B := by
  apply List.ext_getElem hl
  intro j h1 h2
  have := h j h1
  simpa [List.getD_eq_getElem?_getD, h1, h2] using this

/-- Of those cells the bytes as they are seen, of the others as they last. -/
def mixL (S T : List UInt8) (B : Nat → Bool) : List UInt8 := (List.range T.length).map fun j => if B (j / 8) then S.getD j 0 else T.getD j 0
theorem mixL_length (S T : List UInt8) (B : Nat → Bool) : (mixL S T B).length = T.length := by simp [mixL]
theorem mixL_get (S T : List UInt8) (B : Nat → Bool) (j : Nat) (hj : j < T.length) : (mixL S T B).getD j 0 = if B (j / 8) then S.getD j 0 else T.getD j 0 := by
  simp [mixL, List.getD_eq_getElem?_getD, hj]
theorem mixL_none (S T : List UInt8) {B : Nat → Bool} (h : ∀ k, B k = false) : mixL S T B = T := by
  refine ext_getD (mixL_length ..) fun j hj => ?_
  rw [mixL_length] at hj
  rw [mixL_get S T B j hj, if_neg (by rw [h]; decide)]
theorem mixL_keep (S T : List UInt8) (B : Nat → Bool) (k : Nat) : keepN S (mixL S T B) (8 * k) 8 = mixL S T fun j => B j || j == k := by
  refine ext_getD (by rw [keepN_length, mixL_length, mixL_length]) fun j hj => ?_
  rw [keepN_length, mixL_length] at hj
  rw [keepN_get _ _ _ _ _ (by rw [mixL_length]; exact hj), mixL_get _ _ _ _ hj, mixL_get _ _ _ _ hj]
  by_cases h : 8 * k ≤ j ∧ j < 8 * k + 8
  · have : j / 8 = k := by omega
    rw [if_pos h, if_pos (by simp [this])]
  · have : ¬ j / 8 = k := by omega
    rw [if_neg h]
    simp [this]
theorem mixL_congr (S T : List UInt8) {B C : Nat → Bool} (h : ∀ k, 8 * k < T.length → B k = C k) : mixL S T B = mixL S T C := by
  refine ext_getD (by rw [mixL_length, mixL_length]) fun j hj => ?_
  rw [mixL_length] at hj
  rw [mixL_get _ _ _ _ hj, mixL_get _ _ _ _ hj, h (j / 8) (by omega)]

/-- Does a cell not last as it is seen? -/
def dirtyB (S T : List UInt8) (k : Nat) : Bool := (List.range 8).any fun j => S.getD (8 * k + j) 0 != T.getD (8 * k + j) 0
def dirtyL (S T : List UInt8) (N : Nat) : List Int := ((List.range N).filter (dirtyB S T)).map Int.ofNat
def clrAll (A : List Bool) : List Bool := List.replicate A.length false
/-- Is a cell in a line that bytes touch? -/
def lineB (at_ n : Nat) (k : Nat) : Bool := decide (0 < n ∧ at_ / 64 ≤ k / 8 ∧ k / 8 ≤ (at_ + n - 1) / 64)
def flushA (S T : List UInt8) (A : List Bool) (B : Nat → Bool) : List Bool := (List.range A.length).map fun k => A.getD k false || (B k && dirtyB S T k)
theorem flushA_length (S T : List UInt8) (A : List Bool) (B : Nat → Bool) : (flushA S T A B).length = A.length := by simp [flushA]
theorem getD_ext {A B : List Bool} (hl : A.length = B.length) (h : ∀ j, j < A.length → A.getD j false = B.getD j false) : A = B := by
  apply List.ext_getElem hl
  intro j h1 h2
  have := h j h1
  simpa [List.getD_eq_getElem?_getD, h1, h2] using this
theorem getD_set (A : List Bool) (k j : Nat) (v : Bool) (hk : k < A.length) : (A.set k v).getD j false = if j = k then v else A.getD j false := by
  rw [List.getD_eq_getElem?_getD]
  by_cases e : j = k
  · subst e; rw [List.getElem?_set_self hk, if_pos rfl]; rfl
  · rw [List.getElem?_set_ne (Ne.symm e), if_neg e, ← List.getD_eq_getElem?_getD]
theorem flushA_get (S T : List UInt8) (A : List Bool) (B : Nat → Bool) (k : Nat) (hk : k < A.length) : (flushA S T A B).getD k false = (A.getD k false || (B k && dirtyB S T k)) := by
  simp [flushA, List.getD_eq_getElem?_getD, hk]
theorem flushA_none (S T : List UInt8) (A : List Bool) {B : Nat → Bool} (h : ∀ k, B k = false) : flushA S T A B = A := by
  refine getD_ext (flushA_length ..) fun j hj => ?_
  rw [flushA_length] at hj
  rw [flushA_get _ _ _ _ _ hj, h]
  simp
theorem flushA_congr (S T : List UInt8) (A : List Bool) {B C : Nat → Bool} (h : ∀ k, k < A.length → dirtyB S T k = true → B k = C k) : flushA S T A B = flushA S T A C := by
  refine getD_ext (by rw [flushA_length, flushA_length]) fun j hj => ?_
  rw [flushA_length] at hj
  rw [flushA_get _ _ _ _ _ hj, flushA_get _ _ _ _ _ hj]
  cases hd : dirtyB S T j with
  | false => simp
  | true => rw [h j hj hd]
theorem flushA_set (S T : List UInt8) (A : List Bool) (B : Nat → Bool) (k : Nat) (hk : k < A.length) (hd : dirtyB S T k = true) : (flushA S T A B).set k true = flushA S T A fun j => B j || decide (j = k) := by
  refine getD_ext (by rw [List.length_set, flushA_length, flushA_length]) fun j hj => ?_
  rw [List.length_set, flushA_length] at hj
  rw [getD_set _ _ _ _ (by rw [flushA_length]; exact hk), flushA_get _ _ _ _ _ hj, flushA_get _ _ _ _ _ hj]
  by_cases e : j = k
  · subst e; simp [hd]
  · simp [e]
theorem flushA_skip (S T : List UInt8) (A : List Bool) (B : Nat → Bool) (k : Nat) (hd : dirtyB S T k = false) : flushA S T A B = flushA S T A fun j => B j || decide (j = k) :=
  flushA_congr S T A fun j _ hj => by
    by_cases e : j = k
    · subst e; rw [hd] at hj; cases hj
    · simp [e]
/-- Does a pick let a cell last? -/
def oddP (p : Int) : Bool := (p % 2 != 0) != decide (p < 0)
/-- The cells that the first i picks let last. -/
def crashB (l pk : List Int) : Nat → Nat → Bool
  | 0 => fun _ => false
  | i + 1 => fun k => crashB l pk i k || (decide (l[i]? = some (k : Int)) && decide (i < pk.length) && oddP (pk.getD i 0))
theorem crashB_skip {l pk : List Int} {i : Nat} (h : i < pk.length → oddP (pk.getD i 0) = false) : crashB l pk (i + 1) = crashB l pk i := by
  funext k
  simp only [crashB]
  by_cases hi : i < pk.length
  · rw [h hi]; simp
  · rw [decide_eq_false hi]; simp
theorem crashB_go {l pk : List Int} {i k0 : Nat} (hl : l[i]? = some (k0 : Int)) (hi : i < pk.length) (ho : oddP (pk.getD i 0) = true) : crashB l pk (i + 1) = fun k => crashB l pk i k || k == k0 := by
  funext k
  simp only [crashB, hl, ho, decide_eq_true hi, Bool.and_true]
  congr 1
  by_cases e : k = k0
  · subst e; simp
  · rw [beq_false_of_ne e]; apply decide_eq_false; intro q; injection q with q; omega
theorem crashB_after {l pk : List Int} {i : Nat} (hi : pk.length ≤ i) : ∀ j, crashB l pk (i + j) = crashB l pk i := by
  intro j
  induction j with
  | zero => rfl
  | succ j ih => rw [← ih]; exact crashB_skip fun q => by (have q2 : i + j < pk.length := q; omega)
/-- Cells from c on are no longer on their way. -/
def clrC (A : List Bool) (c : Nat) : Nat → List Bool
  | 0 => A
  | n + 1 => (clrC A c n).set (c + n) false
theorem clrC_length (A : List Bool) (c n : Nat) : (clrC A c n).length = A.length := by
  induction n with
  | zero => rfl
  | succ n ih => simp [clrC, ih]
def inC (c n : Nat) (k : Nat) : Bool := decide (c ≤ k ∧ k < c + n)
theorem mixL_inC (S T : List UInt8) (c n : Nat) : keepN S (mixL S T (inC c n)) (8 * (c + n)) 8 = mixL S T (inC c (n + 1)) := by
  rw [mixL_keep]
  refine mixL_congr S T fun k _ => ?_
  simp only [inC]
  by_cases h : k = c + n
  · subst h; simp
  · rw [beq_false_of_ne h, Bool.or_false]; congr 1; apply propext; omega
end Go.Proofs.Ytncjfljmnkfghaa

namespace Go.Proofs.Ytncjfljmnkfghaa
open Go.RowKit

/-- Where a memory lies: itself, its two rows, its set. -/
structure MB where
  p : Nat
  gs : Nat
  gt : Nat
  b : Nat
def MB.F (x : MB) (k : Nat) : Prop := k = x.p ∨ k = x.gs ∨ k = x.gt ∨ k = x.b
def MB.apart (x : MB) : Prop := x.p ≠ x.gs ∧ x.p ≠ x.gt ∧ x.p ≠ x.b ∧ x.gs ≠ x.gt ∧ x.gs ≠ x.b ∧ x.gt ≠ x.b
/-- A memory of N cells: what is seen, what lasts, what is on its way. -/
def PM (w : World) (x : MB) (N : Nat) (S T : List UInt8) (A : List Bool) : Prop := ∃ cs ct, (N % 8 = 0 ∧ 8 ≤ N ∧ N ≤ 131072) ∧ A.length = N ∧ x.apart ∧
  CR w x.p 82 3 1 1 [.slice (some ⟨x.gs, 0, none⟩) N cs, .slice (some ⟨x.gt, 0, none⟩) N ct, .map (some x.b)] ∧ CR w x.gs 95 8 N cs (bvs S) ∧ CR w x.gt 95 8 N ct (bvs T) ∧ SetIs w x.b A
section
variable {w w' : World} {x : MB} {N : Nat} {S T : List UInt8} {A : List Bool}
theorem PM.turn {F : Nat → Prop} (h : PM w x N S T A) (t : Turn F w w') (hF : ∀ k, F k → ¬ x.F k) : PM w' x N S T A := by
  obtain ⟨cs, ct, h1, h2, h3, h4, h5, h6, h7⟩ := h
  exact ⟨cs, ct, h1, h2, h3, h4.turn t (fun q => hF _ q (.inl rfl)), h5.turn t (fun q => hF _ q (.inr (.inl rfl))), h6.turn t (fun q => hF _ q (.inr (.inr (.inl rfl)))), h7.turn t (fun q => hF _ q (.inr (.inr (.inr rfl))))⟩
theorem PM.keep (h : PM w x N S T A) (g : Grow w w') : PM w' x N S T A := h.turn (Turn.grow g fun _ => False) (fun _ q => q.elim)
theorem PM.lenS (h : PM w x N S T A) : S.length = 8 * N := by obtain ⟨cs, ct, h1, h2, h3, h4, h5, h6, h7⟩ := h; have := h5.1; rw [bvs_length] at this; omega
theorem PM.lenT (h : PM w x N S T A) : T.length = 8 * N := by obtain ⟨cs, ct, h1, h2, h3, h4, h5, h6, h7⟩ := h; have := h6.1; rw [bvs_length] at this; omega
theorem PM.lenA (h : PM w x N S T A) : A.length = N := by obtain ⟨cs, ct, h1, h2, h3, h4, h5, h6, h7⟩ := h; exact h2
theorem PM.bound (h : PM w x N S T A) : N % 8 = 0 ∧ 8 ≤ N ∧ N ≤ 131072 := by obtain ⟨cs, ct, h1, h2, h3, h4, h5, h6, h7⟩ := h; exact h1
theorem PM.lt (h : PM w x N S T A) : ∀ k, x.F k → k < w.heap.size := by
  obtain ⟨cs, ct, h1, h2, h3, h4, h5, h6, h7⟩ := h
  rintro k (rfl | rfl | rfl | rfl)
  · exact h4.lt
  · exact h5.lt
  · exact h6.lt
  · exact h7.lt
end
theorem bvs_at {bs : List UInt8} {j : Nat} (hj : j < bs.length) : (bvs bs)[j]? = some (.int .u8 ((bs.getD j 0).toNat : Int)) := by
  rw [bvs_get bs j hj, List.getD_eq_getElem?_getD, List.getElem?_eq_getElem hj]
  rfl

theorem pm_size {w : World} {x : MB} {N : Nat} {S T : List UInt8} {A : List Bool} (h : PM w x N S T A) :
    Calls Try.prog 49 #[.pointer (some ⟨x.p, 0, none⟩)] w fun e w' => e = .returned (.int .i64 ((N : Int) * 8)) ∧ w = w' := by
  obtain ⟨cs, ct, ⟨h1, h1', h1''⟩, h2, h3, h4, h5, h6, h7⟩ := h
  have c0 := h4.cell (j := 0) rfl
  have l0 := h4.lt
  have e1 : wrap64 ((N : Int) * 8) = (N : Int) * 8 := IntWalk.wrap64_in _ (by omega)
  clear h4 h5 h6 h7 h1 h2 h3
  go_enter Try.func49, Try.ntmps49
  go_wp2_with fail
  go_ret
  exact ⟨rfl, rfl⟩

theorem pm_within {w : World} {x : MB} {N : Nat} {S T : List UInt8} {A : List Bool} (h : PM w x N S T A) (at_ n : Int) (hn : -9223372036854775808 ≤ n) (hn' : n ≤ 9223372036854775807) :
    Calls Try.prog 58 #[.pointer (some ⟨x.p, 0, none⟩), .int .i64 at_, .int .i64 n] w fun e w' => e = .returned (.bool (inW (8 * N) at_ n)) ∧ w = w' := by
  obtain ⟨hb1, hb2, hb3⟩ := h.bound
  by_cases h1 : 0 ≤ at_
  · by_cases h2 : 0 ≤ n
    · by_cases h3 : at_ ≤ (N : Int) * 8
      · have hs := (pm_size h)
        have e1 : wrap64 ((N : Int) * 8 - at_) = (N : Int) * 8 - at_ := IntWalk.wrap64_in _ (by omega)
        have e2 : inW (8 * N) at_ n = decide (n ≤ (N : Int) * 8 - at_) := by simp only [inW]; congr 1; apply propext; omega
        have d1 : decide (0 ≤ at_) = true := decide_eq_true h1
        have d2 : decide (0 ≤ n) = true := decide_eq_true h2
        have d3 : decide (at_ ≤ (N : Int) * 8) = true := decide_eq_true h3
        rw [e2]
        clear e2 h h1 h2 h3
        go_enter Try.func58, Try.ntmps58
        go_wp2_with (go_at_call 49; refine hs.mono ?_; rintro e w1 ⟨rfl, rfl⟩)
        go_ret
        exact ⟨rfl, rfl⟩
      · have hs := (pm_size h)
        have e2 : inW (8 * N) at_ n = false := by simp only [inW]; apply decide_eq_false; omega
        have d1 : decide (0 ≤ at_) = true := decide_eq_true h1
        have d2 : decide (0 ≤ n) = true := decide_eq_true h2
        have d3 : decide (at_ ≤ (N : Int) * 8) = false := decide_eq_false h3
        rw [e2]
        clear e2 h h1 h2 h3
        go_enter Try.func58, Try.ntmps58
        go_wp2_with (go_at_call 49; refine hs.mono ?_; rintro e w1 ⟨rfl, rfl⟩)
        go_ret
        exact ⟨rfl, rfl⟩
    · have e2 : inW (8 * N) at_ n = false := by simp only [inW]; apply decide_eq_false; omega
      have d1 : decide (0 ≤ at_) = true := decide_eq_true h1
      have d2 : decide (0 ≤ n) = false := decide_eq_false h2
      rw [e2]
      clear e2 h h1 h2
      go_enter Try.func58, Try.ntmps58
      go_wp2_with fail
      go_ret
      exact ⟨rfl, rfl⟩
  · have e2 : inW (8 * N) at_ n = false := by simp only [inW]; apply decide_eq_false; omega
    have d1 : decide (0 ≤ at_) = false := decide_eq_false h1
    rw [e2]
    clear e2 h h1
    go_enter Try.func58, Try.ntmps58
    go_wp2_with fail
    go_ret
    exact ⟨rfl, rfl⟩

theorem tdiv8 {k q : Nat} (h : q = k / 8) : Int.tdiv (k : Int) 8 = (q : Int) := by rw [Int.tdiv_eq_ediv_of_nonneg (by omega)]; omega
theorem tmod8 {k r : Nat} (h : r = k % 8) : Int.tmod (k : Int) 8 = (r : Int) := by rw [Int.tmod_eq_emod_of_nonneg (by omega)]; omega
theorem wrapS {k M : Nat} (h : k < M) (h' : M ≤ 8 * 131072) : wrap64 ((k : Int) + 1) = (k : Int) + 1 := IntWalk.wrap64_in _ (by omega)
theorem meas {M k : Nat} (h : k < M) : M - (intOf (.int .i64 ((k : Int) + 1))).toNat < M - (intOf (.int .i64 (k : Int))).toNat := by simp [intOf]; omega
theorem measW {M k : Nat} (h : k < M) (e : wrap64 ((k : Int) + 1) = (k : Int) + 1) : M - (intOf (.int .i64 (wrap64 ((k : Int) + 1)))).toNat < M - (intOf (.int .i64 (k : Int))).toNat := by rw [e]; exact meas h
theorem wrapN {q N : Nat} (h : q < N) (h' : N ≤ 131072) : wrap64 (q : Int) = (q : Int) := IntWalk.wrap64_in _ (by omega)

/-- What holds at each round of 'bytes'. -/
def BytesInv (w wr : World) (L : List UInt8) (a m : Nat) (out i : Value) : Prop := ∃ k : Nat, i = .int .i64 (k : Int) ∧ a ≤ k ∧ k ≤ a + m ∧ OB wr w.heap.size out ((L.drop a).take (k - a)) ∧ Grow w wr

theorem pm_bytes_no {w : World} {x : MB} {N : Nat} {S T : List UInt8} {A : List Bool} (h : PM w x N S T A) (l : Value) (at_ n : Int) (hn : -9223372036854775808 ≤ n) (hn' : n ≤ 9223372036854775807) (hin : inW (8 * N) at_ n = false) :
    Calls Try.prog 64 #[.pointer (some ⟨x.p, 0, none⟩), l, .int .i64 at_, .int .i64 n] w fun e w' => e = .returned (.tuple #[.slice none 0 0, .int .i64 1]) ∧ w = w' := by
  have hw := pm_within h at_ n hn hn'
  rw [hin] at hw
  clear hin h hn hn'
  go_enter Try.func64, Try.ntmps64
  go_wp2_with fail
  refine hw.mono ?_
  rintro e w1 ⟨rfl, rfl⟩
  go_wp2_with fail
  go_ret2
  exact ⟨rfl, rfl⟩

set_option maxHeartbeats 1000000 in
theorem pm_bytes {w : World} {x : MB} {N : Nat} {S T : List UInt8} {A : List Bool} (h : PM w x N S T A) {g c : Nat} {L : List UInt8} (hr : CR w g 95 8 N c (bvs L)) (a m : Nat) (hA : a + m ≤ 8 * N) :
    Calls Try.prog 64 #[.pointer (some ⟨x.p, 0, none⟩), .slice (some ⟨g, 0, none⟩) N c, .int .i64 (a : Nat), .int .i64 (m : Nat)] w fun e w' =>
      ∃ A' c', e = .returned (.tuple #[.slice A' m c', .int .i64 0]) ∧ Own w' w.heap.size A' m c' ((L.drop a).take m) ∧ Grow w w' := by
  obtain ⟨hb1, hb2, hb3⟩ := h.bound
  have hw := pm_within h (a : Int) (m : Int) (by omega) (by omega)
  rw [inW_iff.2 (by omega)] at hw
  have hL : L.length = 8 * N := by have := hr.1; rw [bvs_length] at this; omega
  have HL := Lib.hid hL
  have hcap : N ≤ c := hr.2.1
  have hlt := hr.lt
  have e1 : wrap64 ((a : Int) + (m : Int)) = (a : Int) + (m : Int) := IntWalk.wrap64_in _ (by omega)
  have HB := Lib.hid hb3
  clear h hL hb3 hb1 hb2
  go_enter Try.func64, Try.ntmps64
  go_wp2_with fail
  refine hw.mono ?_
  rintro e w1 ⟨rfl, rfl⟩
  clear hw
  go_wp2_with fail
  go_loopw [10, 11] (fun out i wr => BytesInv w wr L a m out i) (fun _ i _ => a + m - (intOf i).toNat)
  case atStart => exact ⟨a, rfl, by omega, by omega, by rw [Nat.sub_self, List.take_zero]; exact OB.nil _ _, Grow.refl _⟩
  case round =>
    obtain ⟨k, rfl, hak, hk, ho, G⟩ := hrel
    by_cases hlt2 : k < a + m
    · obtain ⟨q, hq⟩ : ∃ q, q = k / 8 := ⟨_, rfl⟩
      obtain ⟨r, hr8⟩ : ∃ r, r = k % 8 := ⟨_, rfl⟩
      have hj : k < L.length := by rw [HL.out]; omega
      have c0 := G.cell (hr.cell (bvs_at hj))
      have hqN : q < N := by omega
      have hr8' : r < 8 := by omega
      have z1 : decide ((k : Int) < (a : Int) + (m : Int)) = true := decide_eq_true (by omega)
      obtain ⟨u, hu⟩ : ∃ u, u = L.getD k 0 := ⟨_, rfl⟩
      rw [← hu, show k = q * 8 + r by omega] at c0
      have HO := Lib.hid (show (L.drop a).take (k + 1 - a) = (L.drop a).take (k - a) ++ [u] by
        rw [show k + 1 - a = (k - a) + 1 by omega, List.take_succ_eq_append_getElem (by rw [List.length_drop]; omega), hu]
        congr 2
        rw [List.getElem_drop, List.getD_eq_getElem?_getD, List.getElem?_eq_getElem hj]
        simp only [Option.getD_some, show a + (k - a) = k by omega])
      have hlen : ((L.drop a).take (k - a)).length ≤ 2000000 := by rw [List.length_take, List.length_drop, HL.out]; have := HB.out; omega
      have HLEN := Lib.hid hlen
      have hz := Below.size G
      clear hu hj hlen
      have hlen' : ((L.drop a).take (k - a)).length + 1 ≤ 140737488355328 := by have := HLEN.out; omega
      have HL2 := Lib.hid hlen'
      clear hlen'
      have e2 := tdiv8 hq
      have e3 := tmod8 hr8
      have e4 := wrapN hqN HB.out
      have e5 := wrapS (Nat.lt_of_lt_of_le hlt2 hA) (Nat.mul_le_mul_left 8 HB.out)
      clear hq hr8
      go_wp2_with (at_builtin; refine wpList_app1 rfl (.tmp 25) (.tmp 34) rfl w.heap.size _ ((L.drop a).take (k - a)) rfl _ rfl ho u rfl HL2.out hz ?_; intro v1 w2 o2 g2)
      have X : BytesInv w w2 L a m v1 (.int .i64 ((k : Int) + 1)) := ⟨k + 1, by simp, by clear e2 e3 e4 e5 e1; omega, by clear e2 e3 e4 e5 e1; omega, by rw [HO.out]; exact o2, G.low g2⟩
      go_roundw
      case rel => (try rw [e5]); first | exact X | ((repeat apply Exists.intro); exact X) | ((repeat apply Exists.intro); refine ⟨X, ?_⟩; rfl)
      case measure => first | exact meas hlt2 | exact measW hlt2 e5
    · have z1 : decide ((k : Int) < (a : Int) + (m : Int)) = false := decide_eq_false (by omega)
      go_wp2_with fail
      obtain rfl : k = a + m := by omega
      obtain ⟨A1, c1, rfl, ho1⟩ := Own.ofOB ho m (by rw [List.length_take, List.length_drop, HL.out]; omega) (by have := HB.out; omega)
      rw [Nat.add_sub_cancel_left] at ho1
      go_wp2_with fail
      go_ret2
      exact ⟨_, _, rfl, ho1, G⟩

theorem pm_load {w : World} {x : MB} {N : Nat} {S T : List UInt8} {A : List Bool} (h : PM w x N S T A) (a m : Nat) (hA : a + m ≤ 8 * N) :
    Calls Try.prog 56 #[.pointer (some ⟨x.p, 0, none⟩), .int .i64 (a : Nat), .int .i64 (m : Nat)] w fun e w' =>
      ∃ A' c', e = .returned (.tuple #[.slice A' m c', .int .i64 0]) ∧ Own w' w.heap.size A' m c' ((S.drop a).take m) ∧ Grow w w' := by
  obtain ⟨cs, ct, h1, h2, h3, h4, h5, h6, h7⟩ := id h
  have c0 := h4.cell (j := 0) rfl
  have l0 := h4.lt
  have HB := Lib.hid (pm_bytes h h5 a m hA)
  clear h h1 h2 h3 h4 h5 h6 h7
  go_enter Try.func56, Try.ntmps56
  go_wp2_with fail
  refine HB.out.mono ?_
  rintro e w1 ⟨A', c', rfl, ho, g⟩
  go_wp2_with fail
  go_ret2
  exact ⟨_, _, rfl, ho, g⟩
theorem pm_load_no {w : World} {x : MB} {N : Nat} {S T : List UInt8} {A : List Bool} (h : PM w x N S T A) (at_ n : Int) (hn : -9223372036854775808 ≤ n) (hn' : n ≤ 9223372036854775807) (hin : inW (8 * N) at_ n = false) :
    Calls Try.prog 56 #[.pointer (some ⟨x.p, 0, none⟩), .int .i64 at_, .int .i64 n] w fun e w' => e = .returned (.tuple #[.slice none 0 0, .int .i64 1]) ∧ w = w' := by
  obtain ⟨cs, ct, h1, h2, h3, h4, h5, h6, h7⟩ := id h
  have c0 := h4.cell (j := 0) rfl
  have l0 := h4.lt
  have HB := fun l => Lib.hid (pm_bytes_no h l at_ n hn hn' hin)
  clear h h1 h2 h3 h4 h5 h6 h7 hn hn' hin
  go_enter Try.func56, Try.ntmps56
  go_wp2_with fail
  refine (HB _).out.mono ?_
  rintro e w1 ⟨rfl, rfl⟩
  go_wp2_with fail
  go_ret2
  exact ⟨rfl, rfl⟩
theorem pm_lasts {w : World} {x : MB} {N : Nat} {S T : List UInt8} {A : List Bool} (h : PM w x N S T A) (a m : Nat) (hA : a + m ≤ 8 * N) :
    Calls Try.prog 32 #[.pointer (some ⟨x.p, 0, none⟩), .int .i64 (a : Nat), .int .i64 (m : Nat)] w fun e w' =>
      ∃ A' c', e = .returned (.tuple #[.slice A' m c', .int .i64 0]) ∧ Own w' w.heap.size A' m c' ((T.drop a).take m) ∧ Grow w w' := by
  obtain ⟨cs, ct, h1, h2, h3, h4, h5, h6, h7⟩ := id h
  have c0 := h4.cell (j := 1) rfl
  have l0 := h4.lt
  have HB := Lib.hid (pm_bytes h h6 a m hA)
  clear h h1 h2 h3 h4 h5 h6 h7
  go_enter Try.func32, Try.ntmps32
  go_wp2_with fail
  refine HB.out.mono ?_
  rintro e w1 ⟨A', c', rfl, ho, g⟩
  go_wp2_with fail
  go_ret2
  exact ⟨_, _, rfl, ho, g⟩
end Go.Proofs.Ytncjfljmnkfghaa

namespace Go.Proofs.Ytncjfljmnkfghaa
open Go.RowKit
section
variable {w w' : World} {x : MB} {N : Nat} {S T : List UInt8} {A : List Bool}
theorem PM.view (h : PM w x N S T A) : ∃ cs ct, N ≤ cs ∧ N ≤ ct ∧ w.cell? ⟨x.p, 0, none⟩ = some (.slice (some ⟨x.gs, 0, none⟩) N cs) ∧ w.cell? ⟨x.p, 1, none⟩ = some (.slice (some ⟨x.gt, 0, none⟩) N ct) ∧ w.cell? ⟨x.p, 2, none⟩ = some (.map (some x.b)) ∧ x.p < w.heap.size := by
  obtain ⟨cs, ct, h1, h2, h3, h4, h5, h6, h7⟩ := h
  exact ⟨cs, ct, h5.2.1, h6.2.1, h4.cell rfl, h4.cell rfl, h4.cell rfl, h4.lt⟩
theorem PM.isSet (h : PM w x N S T A) : SetIs w x.b A := by obtain ⟨cs, ct, h1, h2, h3, h4, h5, h6, h7⟩ := h; exact h7
theorem PM.apart (h : PM w x N S T A) : x.apart := by obtain ⟨cs, ct, h1, h2, h3, h4, h5, h6, h7⟩ := h; exact h3
theorem PM.seenAt (h : PM w x N S T A) {j : Nat} (hj : j < 8 * N) : w.cell? ⟨x.gs, j, none⟩ = some (.int .u8 ((S.getD j 0).toNat : Int)) ∧ w.frozen? ⟨x.gs, j, none⟩ = false := by
  have hl := h.lenS
  obtain ⟨cs, ct, h1, h2, h3, h4, h5, h6, h7⟩ := h
  exact ⟨h5.cell (bvs_at (by omega)), h5.frozen j⟩
theorem PM.lastAt (h : PM w x N S T A) {j : Nat} (hj : j < 8 * N) : w.cell? ⟨x.gt, j, none⟩ = some (.int .u8 ((T.getD j 0).toNat : Int)) ∧ w.frozen? ⟨x.gt, j, none⟩ = false := by
  have hl := h.lenT
  obtain ⟨cs, ct, h1, h2, h3, h4, h5, h6, h7⟩ := h
  exact ⟨h6.cell (bvs_at (by omega)), h6.frozen j⟩
theorem PM.seenSet (h : PM w x N S T A) (j : Nat) (u : UInt8) : PM (w.setCell ⟨x.gs, j, none⟩ (.int .u8 (u.toNat : Int))) x N (S.set j u) T A ∧ Turn x.F w (w.setCell ⟨x.gs, j, none⟩ (.int .u8 (u.toNat : Int))) := by
  obtain ⟨cs, ct, h1, h2, h3, h4, h5, h6, h7⟩ := h
  have hk : ∀ k, k ≠ x.gs → (w.setCell ⟨x.gs, j, none⟩ (.int .u8 (u.toNat : Int))).heap[k]? = w.heap[k]? := fun k hk => Below.heap_setCell _ _ _ _ hk
  refine ⟨⟨cs, ct, h1, h2, h3, h4.same (hk _ h3.1), ?_, h6.same (hk _ (Ne.symm h3.2.2.2.1)), h7.kept (hk _ (Ne.symm h3.2.2.2.2.1))⟩, Turn.setCell w (.inr (.inl rfl)) _⟩
  have := h5.set j (bv u)
  rwa [bvs_set] at this
theorem PM.lastSet (h : PM w x N S T A) (j : Nat) (u : UInt8) : PM (w.setCell ⟨x.gt, j, none⟩ (.int .u8 (u.toNat : Int))) x N S (T.set j u) A ∧ Turn x.F w (w.setCell ⟨x.gt, j, none⟩ (.int .u8 (u.toNat : Int))) := by
  obtain ⟨cs, ct, h1, h2, h3, h4, h5, h6, h7⟩ := h
  have hk : ∀ k, k ≠ x.gt → (w.setCell ⟨x.gt, j, none⟩ (.int .u8 (u.toNat : Int))).heap[k]? = w.heap[k]? := fun k hk => Below.heap_setCell _ _ _ _ hk
  refine ⟨⟨cs, ct, h1, h2, h3, h4.same (hk _ h3.2.1), h5.same (hk _ h3.2.2.2.1), ?_, h7.kept (hk _ (Ne.symm h3.2.2.2.2.2))⟩, Turn.setCell w (.inr (.inr (.inl rfl))) _⟩
  have := h6.set j (bv u)
  rwa [bvs_set] at this
theorem PM.setTo (h : PM w x N S T A) {A' : List Bool} (hs : SetIs w' x.b A') (hl : A'.length = A.length) (hg : w.grownBy w' (some x.b)) : PM w' x N S T A' ∧ Turn x.F w w' := by
  have ht : Turn x.F w w' := Turn.grown hg (fun j hj => by injection hj with hj; subst hj; exact .inr (.inr (.inr rfl)))
  have ht2 : Turn (fun k => k = x.b) w w' := Turn.grown hg (fun j hj => by injection hj with hj; subst hj; rfl)
  obtain ⟨cs, ct, h1, h2, h3, h4, h5, h6, h7⟩ := h
  exact ⟨⟨cs, ct, h1, by omega, h3, h4.turn ht2 h3.2.2.1, h5.turn ht2 h3.2.2.2.2.1, h6.turn ht2 h3.2.2.2.2.2, hs⟩, ht⟩
end

def StoreInv (w wr : World) (x : MB) (N : Nat) (S T : List UInt8) (A : List Bool) (a m : Nat) (bs : List UInt8) (t : Value) : Prop := ∃ j : Nat, t = .int .i64 (j : Int) ∧ j ≤ m ∧ PM wr x N (putL S a (bs.take j)) T (clrL A a j) ∧ Turn x.F w wr

theorem wrapA {a j M : Nat} (h : a + j < M) (h' : M ≤ 8 * 131072) : wrap64 ((a : Int) + (j : Int)) = ((a + j : Nat) : Int) := by rw [IntWalk.wrap64_in _ (by omega)]; simp

set_option maxHeartbeats 1000000 in
theorem pm_store {w : World} {x : MB} {N : Nat} {S T : List UInt8} {A : List Bool} (h : PM w x N S T A) {B : Option Addr} {m c : Nat} {bs : List UInt8} (hs : Sl w B m bs) (hB : 0 < m → ∀ p, B = some p → ¬ x.F p.block) (a : Nat) (hA : a + m ≤ 8 * N) :
    Calls Try.prog 29 #[.pointer (some ⟨x.p, 0, none⟩), .int .i64 (a : Nat), .slice B m c] w fun e w' => e = .returned (.int .i64 0) ∧ PM w' x N (putL S a bs) T (clrL A a m) ∧ Turn x.F w w' := by
  obtain ⟨hb1, hb2, hb3⟩ := h.bound
  have hw := pm_within h (a : Int) (m : Int) (by omega) (by omega)
  rw [inW_iff.2 ⟨by omega, by omega, by omega⟩] at hw
  have HW := Lib.hid hw
  have HB := Lib.hid hb3
  have HLA := Lib.hid h.lenA
  have hlen := hs.1
  have HLEN := Lib.hid hlen
  clear hw hb1 hb2 hb3 hlen
  go_enter Try.func29, Try.ntmps29
  go_wp2_with fail
  refine HW.out.mono ?_
  rintro e w1 ⟨rfl, rfl⟩
  clear HW
  go_wp2_with fail
  go_loopw [18] (fun t wr => StoreInv w wr x N S T A a m bs t) (fun t _ => m - (intOf t).toNat)
  case atStart => exact ⟨0, rfl, by omega, h, Turn.refl _ _⟩
  case round =>
    obtain ⟨j, rfl, hj, hP, ht⟩ := hrel
    by_cases hlt : j < m
    · obtain ⟨cs, ct, hcs, hct, c0, -, c2, l0⟩ := hP.view
      obtain ⟨b0, o0, rfl, hb0, cb⟩ := hs.cell hlt
      have hnb := hB (Nat.lt_of_le_of_lt (Nat.zero_le j) hlt) _ rfl
      replace cb := (ht.cell (p := ⟨b0, o0 + j, none⟩) hb0 hnb).trans cb
      obtain ⟨u, hu⟩ : ∃ u, u = bs[j]'(by rw [HLEN.out]; exact hlt) := ⟨_, rfl⟩
      rw [← hu] at cb
      obtain ⟨i, hi⟩ : ∃ i, i = a + j := ⟨_, rfl⟩
      obtain ⟨q, hq⟩ : ∃ q, q = i / 8 := ⟨_, rfl⟩
      obtain ⟨r, hr8⟩ : ∃ r, r = i % 8 := ⟨_, rfl⟩
      have haj : i < 8 * N := by omega
      have hqN : q < N := by omega
      have hr8' : r < 8 := by omega
      have hqr : i = q * 8 + r := by omega
      obtain ⟨cS, fS⟩ := hP.seenAt haj
      obtain ⟨hP1, ht1⟩ := hP.seenSet i u
      have HP := Lib.hid hP1
      have HT := Lib.hid (ht.and ht1)
      rw [hqr] at hP1
      obtain ⟨cs1, ct1, -, -, -, -, d2, -⟩ := hP1.view
      have hSet := hP1.isSet
      have HPUT := Lib.hid (putL_take (S := S) (i := a) (bs := bs) (k := j) (by rw [HLEN.out]; exact hlt))
      have HU := Lib.hid hu
      have hlc : (clrL A a j).length = N := by rw [clrL_length, HLA.out]
      have HCL := Lib.hid (show clrL A a (j + 1) = (clrL A a j).set q false by rw [clrL, hq, hi])
      have HQA := Lib.hid (show q < (clrL A a j).length by rw [hlc]; exact hqN)
      have HQM := Lib.hid (show q ≤ 1000000 by have := HB.out; omega)
      rw [hqr] at cS fS
      have HQR := Lib.hid hqr
      have HI := Lib.hid hi
      have e5 := wrapS (M := 8 * N) (show j < 8 * N by omega) (Nat.mul_le_mul_left 8 HB.out)
      have e1 := wrapA (hi ▸ haj) (Nat.mul_le_mul_left 8 HB.out)
      rw [← hi] at e1
      have e2 := tdiv8 hq
      have e3 := tmod8 hr8
      have e4 := wrapN hqN HB.out
      clear hP hP1 ht ht1 hu hq hr8 hqr hlc haj hi
      go_wp2_with (at_delete; refine wpList_setDel rfl (.tmp 42) (.tmp 43) rfl rfl hSet q HQA.out HQM.out (congrArg (Value.int .i64) e4) ?_; intro w2 hS2 hg2 hz2)
      have X : StoreInv w w2 x N S T A a m bs (.int .i64 ((j : Int) + 1)) := by
        have hP1 := HP.out
        rw [HI.out] at hP1
        have hh := hP1.setTo (w' := w2) (A' := clrL A a (j + 1)) (by rw [HCL.out]; exact hS2) (by rw [clrL_length, clrL_length]) (by rw [← HI.out, HQR.out]; exact hg2)
        refine ⟨j + 1, by simp, hlt, ?_, ?_⟩
        · rw [HPUT.out, ← HU.out]; exact hh.1
        · have := HT.out; rw [HI.out] at this; exact this.and hh.2
      go_roundw
      case rel => (try rw [e5]); first | exact X | ((repeat apply Exists.intro); exact X) | ((repeat apply Exists.intro); refine ⟨X, ?_⟩; rfl)
      case measure => first | exact meas hlt | exact measW hlt e5
    · obtain rfl : j = m := by omega
      have hbs : bs.take j = bs := List.take_of_length_le (by rw [HLEN.out]; omega)
      rw [hbs] at hP
      clear hs hB
      go_wp2_with fail
      go_ret
      exact ⟨rfl, hP, ht⟩
end Go.Proofs.Ytncjfljmnkfghaa
