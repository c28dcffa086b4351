/- The walk of the statement PlogTwice. No statement of the seat is proved here. -/
import Derived.Test.YtncjfljmnkfghaaZ26
import Derived.Test.YtncjfljmnkfghaaZ34
namespace Go.Proofs.Ytncjfljmnkfghaa
open Go.RowKit

theorem LP.turn {W w w' : World} {pb l px py d : Nat} {x : MB} {s : MS} {F : Nat → Prop} (h : LP W w pb l px py d x s) (t : Turn F w w') (hF : ∀ k, F k → ¬ x.F k ∧ k ≠ l ∧ k ≠ pb ∧ W.heap.size ≤ k) : LP W w' pb l px py d x s :=
  ⟨h.lg.turn t (fun k q => (hF k q).1) (fun q => (hF l q).2.1 rfl), h.p, h.blk.turn t (fun q => (hF pb q).2.2.1 rfl), h.xp, h.xb, h.g.low (t.low (fun k q => (hF k q).2.2.2) h.g.size)⟩
/-- Two pairs, the program's sides of them, apart. -/
structure TW (W w : World) (pb l px py d pb2 l2 px2 py2 d2 : Nat) (x x2 : MB) (s s2 : MS) : Prop where
  p : LP W w pb l px py d x s
  q : LP W w pb2 l2 px2 py2 d2 x2 s2
  ap : ∀ k, x.F k → ¬ x2.F k
  xl : ¬ x.F l2
  xb : ¬ x.F pb2
  yl : ¬ x2.F l
  yb : ¬ x2.F pb
section
variable {W w w' : World} {pb l px py d pb2 l2 px2 py2 d2 : Nat} {x x2 x3 : MB} {s s2 s' : MS} {F : Nat → Prop}
theorem TW.keep (h : TW W w pb l px py d pb2 l2 px2 py2 d2 x x2 s s2) (g : Grow w w') : TW W w' pb l px py d pb2 l2 px2 py2 d2 x x2 s s2 := ⟨h.p.keep g, h.q.keep g, h.ap, h.xl, h.xb, h.yl, h.yb⟩
theorem TW.left (h : TW W w pb l px py d pb2 l2 px2 py2 d2 x x2 s s2) (h1 : LP W w' pb l px py d x s') (t : Turn x.F w w') : TW W w' pb l px py d pb2 l2 px2 py2 d2 x x2 s' s2 :=
  ⟨h1, h.q.turn t fun k q => ⟨h.ap k q, fun e => h.xl (e ▸ q), fun e => h.xb (e ▸ q), h.p.xb k q⟩, h.ap, h.xl, h.xb, h.yl, h.yb⟩
theorem TW.right (h : TW W w pb l px py d pb2 l2 px2 py2 d2 x x2 s s2) (h1 : LP W w' pb2 l2 px2 py2 d2 x2 s') (t : Turn x2.F w w') : TW W w' pb l px py d pb2 l2 px2 py2 d2 x x2 s s' :=
  ⟨h.p.turn t fun k q => ⟨fun z => h.ap k z q, fun e => h.yl (e ▸ q), fun e => h.yb (e ▸ q), h.q.xb k q⟩, h1, h.ap, h.xl, h.xb, h.yl, h.yb⟩
theorem TW.rightx (h : TW W w pb l px py d pb2 l2 px2 py2 d2 x x2 s s2) (h1 : LP W w' pb2 l2 px2 py2 d2 x3 s') (t : Turn x2.F w w') (hx : ∀ k, x3.F k → x2.F k ∨ w.heap.size ≤ k) : TW W w' pb l px py d pb2 l2 px2 py2 d2 x x3 s s' := by
  refine ⟨h.p.turn t fun k q => ⟨fun z => h.ap k z q, fun e => h.yl (e ▸ q), fun e => h.yb (e ▸ q), h.q.xb k q⟩, h1, fun k q q2 => ?_, h.xl, h.xb, fun q => ?_, fun q => ?_⟩
  · rcases hx k q2 with q3 | q3
    · exact h.ap k q q3
    · have := h.p.lt k q; omega
  · rcases hx _ q with q3 | q3
    · exact h.yl q3
    · have := h.p.lg.2.1.1; omega
  · rcases hx _ q with q3 | q3
    · exact h.yb q3
    · have := h.p.blk.1; omega
theorem TW.turn (h : TW W w pb l px py d pb2 l2 px2 py2 d2 x x2 s s2) (t : Turn F w w') {B : Nat} (hB : (∀ k, x.F k → k < B) ∧ (∀ k, x2.F k → k < B) ∧ l < B ∧ pb < B ∧ l2 < B ∧ pb2 < B ∧ W.heap.size ≤ B) (hF : ∀ k, F k → B ≤ k) : TW W w' pb l px py d pb2 l2 px2 py2 d2 x x2 s s2 := by
  obtain ⟨h1, h2, h3, h4, h5, h6, h7⟩ := hB
  exact ⟨h.p.turn t fun k q => ⟨fun z => by have := h1 k z; have := hF k q; omega, by have := hF k q; omega, by have := hF k q; omega, by have := hF k q; omega⟩,
    h.q.turn t fun k q => ⟨fun z => by have := h2 k z; have := hF k q; omega, by have := hF k q; omega, by have := hF k q; omega, by have := hF k q; omega⟩, h.ap, h.xl, h.xb, h.yl, h.yb⟩
end

/-- Two pairs of one state, and the patches of the records of their logs. -/
def TwAt (W w : World) (B pb l px py d pb2 l2 px2 py2 d2 : Nat) (x x2 : MB) (m : Nat) (v : Value) : Prop :=
  ∃ (s : MS) (all : List PT), TW W w pb l px py d pb2 l2 px2 py2 d2 x x2 s s ∧ OP w B v all ∧ s.still ∧ (lgL s.S).flatten = all ∧ (∀ p ∈ all, p.lowB = true) ∧ (∀ p ∈ all, p.dat.size ≤ 40) ∧ all.length ≤ 6 * m
def TwInv (W w : World) (B pb l px py d pb2 l2 px2 py2 d2 : Nat) (x x2 : MB) (n : Nat) (v t : Value) : Prop :=
  ∃ i : Nat, t = .int .i64 (i : Int) ∧ i ≤ n ∧ i ≤ 4 ∧ TwAt W w B pb l px py d pb2 l2 px2 py2 d2 x x2 i v
def LowInv (w wr : World) (K : List PT) (v t : Value) : Prop := ∃ k : Nat, t = .int .i64 (k : Int) ∧ k ≤ K.length ∧ OP wr w.heap.size v (lowL (K.take k)) ∧ Grow w wr

/-- Two pairs, patches that have been stored in the second one. -/
def StInv (W w : World) (B pb l px py d pb2 l2 px2 py2 d2 : Nat) (x x2 : MB) (s : MS) (all : List PT) (v t : Value) : Prop :=
  ∃ k : Nat, t = .int .i64 (k : Int) ∧ k ≤ all.length ∧ TW W w pb l px py d pb2 l2 px2 py2 d2 x x2 s (s.stores (all.take k)) ∧ OP w B v all
theorem lp_store_at {W w wz : World} {pb l px py d : Nat} {x : MB} {s : MS} (h : LP W w pb l px py d x s) (r : PT) (g : Grow w wz) (k c : Nat) (hk : w.heap.size ≤ k) (hs : Sl wz (some ⟨k, 0, none⟩) r.dat.size r.txt) :
    Calls Try.prog 29 #[.pointer (some ⟨px, 0, none⟩), .int .i64 r.pos, .slice (some ⟨k, 0, none⟩) r.dat.size c] wz fun e w' => ∃ er, e = .returned (.int .i64 er) ∧ LP W w' pb l px py d x (s.store r.pos r.txt) ∧ Turn x.F wz w' ∧ Turn x.F w w' := by
  obtain rfl := h.p
  refine (pm_storeU (h.lg.1.keep g) hs (fun _ p hp q => ?_) r.pos).mono ?_
  · injection hp with hp
    subst hp
    have q' : x.F k := q
    have := h.lg.1.lt k q'
    omega
  rintro e w' ⟨rfl, h5, t5⟩
  have hl : r.txt.length = r.dat.size := hs.1
  refine ⟨_, rfl, (h.keep g).step ⟨?_, (h.lg.2.1.keep g).turn t5 h.lg.2.2, h.lg.2.2⟩ t5, t5, (Turn.grow g _).and t5⟩
  simp only [MS.store]
  rw [hl]
  exact h5
section
variable {w w' : World} {a b o px2 : Nat} {r : PT} {F : Nat → Prop}
theorem st3_grow (g : Grow w w') (h : w.cell? ⟨a, 0, none⟩ = some (.pointer (some ⟨px2, 0, none⟩)) ∧ w.cell? ⟨b, o, none⟩ = some (.int .i64 r.pos) ∧ w.cell? ⟨b, o + 1, none⟩ = some (.string r.dat)) : w'.cell? ⟨a, 0, none⟩ = some (.pointer (some ⟨px2, 0, none⟩)) ∧ w'.cell? ⟨b, o, none⟩ = some (.int .i64 r.pos) ∧ w'.cell? ⟨b, o + 1, none⟩ = some (.string r.dat) := ⟨g.cell h.1, g.cell h.2.1, g.cell h.2.2⟩
theorem st3_turn (t : Turn F w w') (h2 : ¬ F a) (h3 : ¬ F b) (h : w.cell? ⟨a, 0, none⟩ = some (.pointer (some ⟨px2, 0, none⟩)) ∧ w.cell? ⟨b, o, none⟩ = some (.int .i64 r.pos) ∧ w.cell? ⟨b, o + 1, none⟩ = some (.string r.dat)) : w'.cell? ⟨a, 0, none⟩ = some (.pointer (some ⟨px2, 0, none⟩)) ∧ w'.cell? ⟨b, o, none⟩ = some (.int .i64 r.pos) ∧ w'.cell? ⟨b, o + 1, none⟩ = some (.string r.dat) := ⟨t.cell' h.1 h2, t.cell' h.2.1 h3, t.cell' h.2.2 h3⟩
end

theorem lp_end {W w : World} {pb l px py d : Nat} {x : MB} {s : MS} (h : LP W w pb l px py d x s) (h0 : lgE s.S = 0) :
    Calls Try.prog 33 #[.pointer (some ⟨l, 0, none⟩)] w fun e w' => e = .returned (.int .i64 0) ∧ Grow w w' := by
  refine (pl_end h.lg).mono ?_
  rintro e w' ⟨rfl, g⟩
  exact ⟨by rw [h0]; rfl, g⟩
theorem lp_lasts {W w : World} {pb l px py d : Nat} {x : MB} {s : MS} (h : LP W w pb l px py d x s) :
    Calls Try.prog 32 #[.pointer (some ⟨px, 0, none⟩), .int .i64 0, .int .i64 512] w fun e w' => ∃ A c, e = .returned (.tuple #[.slice A 512 c, .int .i64 0]) ∧ Sl w' A 512 (s.T.take 512) ∧ Grow w w' := by
  obtain rfl := h.p
  refine (pm_lasts h.lg.1 0 512 (by decide)).mono ?_
  rintro e w' ⟨A, c, rfl, o, g⟩
  rw [List.drop_zero] at o
  exact ⟨A, c, rfl, o.sl, g⟩

set_option maxHeartbeats 16000000 in
set_option maxRecDepth 8000 in
theorem law_PlogTwice (A0 : Option Addr) (n c : Nat) (LL : List (List PT)) (st : Int) (Q : Option Addr) (q dq : Nat) (pk : List Int) (W : World) (hr : RR2 W A0 LL) (hn : n = LL.length) (hs1 : -9223372036854775808 ≤ st) (hs2 : st ≤ 9223372036854775807) (hq : RI W Q q pk) (hdq : q ≤ dq) :
    Calls Try.prog 8 #[.slice A0 n c, .int .i64 st, .slice Q q dq] W fun e w' => e = .returned (.bool true) ∧ Below W.heap.size W w' := by
  have HR := Lib.hid hr
  have HNN := Lib.hid hn
  have HQ := Lib.hid hq
  clear hr hq hn
  go_enter Try.func8, Try.ntmps8
  go_wp2_with fail
  refine (begin8 W).mono ?_
  rintro e w1 ⟨pb, l, d, x, y, rfl, hp, hpb, hl, -, g1⟩
  have HL1 := Lib.hid (hp.lp g1)
  clear hp
  go_wp2_with fail
  refine (begin8 w1).mono ?_
  rintro e w2 ⟨pb2, l2, d2, x2, y2, rfl, hp2, hpb2, hl2, -, g2⟩
  have HLT := HL1.out.lt
  have hz1 := g1.size
  have hll : l < w1.heap.size := HL1.out.lg.2.1.1
  have hlp : pb < w1.heap.size := HL1.out.blk.1
  have L2 : LP W w2 pb2 l2 x2.p y2.p d2 x2 fresh := ⟨hp2.lg, rfl, hp2.blk, hp2.xp, fun k q => by have := hp2.xb k q; omega, g1.trans g2⟩
  have HT0 := Lib.hid (show TW W w2 pb l x.p y.p d pb2 l2 x2.p y2.p d2 x x2 fresh fresh from
    ⟨HL1.out.keep g2, L2, fun k q q2 => by have := HLT k q; have := hp2.xb k q2; omega, fun q => by have := HLT _ q; omega, fun q => by have := HLT _ q; omega, fun q => by have := hp2.xb _ q; omega, fun q => by have := hp2.xb _ q; omega⟩)
  obtain ⟨B, hB⟩ : ∃ B, B = w2.heap.size := ⟨_, rfl⟩
  have HB := Lib.hid (show (∀ k, x.F k → k < B) ∧ (∀ k, x2.F k → k < B) ∧ l < B ∧ pb < B ∧ l2 < B ∧ pb2 < B ∧ W.heap.size ≤ B from by
    rw [hB]
    exact ⟨HT0.out.p.lt, HT0.out.q.lt, HT0.out.p.lg.2.1.1, HT0.out.p.blk.1, HT0.out.q.lg.2.1.1, HT0.out.q.blk.1, HT0.out.p.g.size⟩)
  obtain ⟨px, hpx⟩ : ∃ z, z = x.p := ⟨_, rfl⟩
  obtain ⟨py, hpy⟩ : ∃ z, z = y.p := ⟨_, rfl⟩
  obtain ⟨px2, hpx2⟩ : ∃ z, z = x2.p := ⟨_, rfl⟩
  obtain ⟨py2, hpy2⟩ : ∃ z, z = y2.p := ⟨_, rfl⟩
  rw [← hpx, ← hpy, ← hpx2, ← hpy2] at HT0
  have HA0 := Lib.hid (show TwAt W w2 B pb l px py d pb2 l2 px2 py2 d2 x x2 0 (.slice none 0 0) from
    ⟨fresh, [], HT0.out, OP.nil _ _, fresh_still, by rw [fresh_log.2.1]; rfl, fun p hp => by simp at hp, fun p hp => by simp at hp, by simp⟩)
  have HBS := Lib.hid (show B ≤ w2.heap.size by rw [hB]; exact Nat.le_refl _)
  clear hpb hl hpb2 hl2 g1 g2 HL1 HLT hz1 hll hlp L2 hp2 hpx hpy hpx2 hpy2 hB HT0
  go_upto_block 0 with fail
  go_cut [9, 10] (fun v t wx => (∃ z : Int, t = .int .i64 z) ∧ TwAt W wx B pb l px py d pb2 l2 px2 py2 d2 x x2 4 v ∧ B ≤ wx.heap.size)
  case first =>
    go_wp2_with fail
    go_loopw [9, 10] (fun va t wr => TwInv W wr B pb l px py d pb2 l2 px2 py2 d2 x x2 n va t ∧ B ≤ wr.heap.size) (fun _ t _ => 4 - (intOf t).toNat)
    case atStart => exact ⟨⟨0, rfl, Nat.zero_le _, Nat.zero_le _, HA0.out⟩, HBS.out⟩
    case round =>
      obtain ⟨⟨i, rfl, hi, hi2, s, all, htw, hall, hst, hfl, hlow, hsm, hlen⟩, hbz⟩ := hrel
      have HT := Lib.hid htw
      have HA := Lib.hid hall
      have HS := Lib.hid (And.intro hst (And.intro hfl (And.intro hlow (And.intro hsm hlen))))
      have HBZ := Lib.hid hbz
      clear htw hall hst hfl hlow hsm hlen hbz
      by_cases hlt : i < n
      · by_cases hlt2 : i < 4
        · obtain ⟨b, o, Ak, ck, Lk, rfl, hb, c0, hok, -, hwk, -⟩ := HR.out.at_ (i := i) (by rw [← HNN.out]; exact hlt)
          replace c0 := HT.out.p.g.cell c0
          have HOK := Lib.hid (hok.keep HT.out.p.g)
          have HWK := Lib.hid (fewP_wide (k := 6) (m := 40) hwk)
          clear hok hwk hb
          go_wp2_with fail
          refine (little_c HOK.out).mono ?_
          rintro e w4 ⟨v4, rfl, o4, g4⟩
          have hfl := fewP_length 6 40 Lk
          have hfs : ∀ p ∈ fewP 6 40 Lk, p.dat.size ≤ 40 := fewP_few
          obtain ⟨K, hK⟩ : ∃ K, K = fewP 6 40 Lk := ⟨_, rfl⟩
          rw [← hK] at o4 HWK hfl hfs
          obtain ⟨A4, c4, rfl, hc4, r4⟩ := o4.rp (by omega)
          obtain ⟨n4, hn4⟩ : ∃ n4, n4 = K.length := ⟨_, rfl⟩
          rw [← hn4] at hc4 hfl r4 ⊢
          have HN4 := Lib.hid hn4
          have HFS := Lib.hid hfs
          have R4 := Lib.hid r4
          have HT4 := Lib.hid (HT.out.keep g4)
          have HA4 := Lib.hid (HA.out.keep g4)
          have HBZ4 := Lib.hid (Nat.le_trans HBZ.out g4.size)
          clear o4 g4 hK hn4 r4 c0 hfs HOK
          go_wp2_with fail
          go_loopw [11, 13] (fun v t wr => LowInv w4 wr K v t) (fun _ t _ => n4 - (intOf t).toNat)
          case atStart => exact ⟨0, rfl, Nat.zero_le _, OP.nil _ _, Grow.refl _⟩
          case round =>
            obtain ⟨k, rfl, hk, hop, hg⟩ := hrel
            have hk' : k ≤ n4 := by have := HN4.out; omega
            have HO := Lib.hid hop
            have HG := Lib.hid hg
            clear hop hg hk
            by_cases hlt3 : k < n4
            · have R4' := R4.out.keep HG.out
              obtain ⟨b', o', r, hrk, rfl, hb', d0, d1⟩ := R4'.at_ hlt3
              have hrs : r.dat.size ≤ 40 := HFS.out r (List.mem_of_getElem? hrk)
              have hrw := HWK.out r (List.mem_of_getElem? hrk)
              have HRK := Lib.hid hrk
              have HSZ := Lib.hid HG.out.size
              clear hrk R4'
              cases hlow : r.lowB with
              | true =>
                obtain ⟨l1, l2, l3⟩ := PT.lowB_iff.1 hlow
                have HST := Lib.hid (lowL_yes HRK.out hlow)
                have HLL := Lib.hid (show (lowL (K.take k)).length ≤ k from Nat.le_trans (lowL_length _) (by rw [List.length_take]; omega))
                have e1 : wrap64 (r.pos + (r.dat.size : Int)) = r.pos + (r.dat.size : Int) := IntWalk.wrap64_in _ (by omega)
                have e2 : IntKind.i64.wrap (r.pos + (r.dat.size : Int)) = r.pos + (r.dat.size : Int) := IntWalk.i64_in _ (by omega)
                clear hlow
                go_wp2_with fail
                go_quiet (fail)
                go_wp2_with (at_builtin; go_loud (refine wpList_appP1 rfl (.tmp 82) (.tmp 87) rfl w4.heap.size _ (lowL (K.take k)) rfl r (by first | rfl | simp) (HO.out.keep ((Grow.refl _).drewN _)) (by have := HLL.out; omega) (by have := HSZ.out; first | omega | (simp; omega)) ?_; intro v2 w2 q1 q2))
                have X : LowInv w4 w2 K v2 (.int .i64 ((k : Int) + 1)) := ⟨k + 1, by simp, by have := HN4.out; omega, by rw [HST.out]; exact q1, (HG.out.drewN _).low q2⟩
                have HX := Lib.hid X
                clear X
                go_wp2_with fail
                go_roundw
                have e5 : wrap64 ((k : Int) + 1) = (k : Int) + 1 := IntWalk.wrap64_in _ (by omega)
                case rel => (try rw [e5]); first | exact HX.out | ((repeat apply Exists.intro); exact HX.out) | ((repeat apply Exists.intro); refine ⟨HX.out, ?_⟩; rfl)
                case measure => (have e5 : wrap64 ((k : Int) + 1) = (k : Int) + 1 := IntWalk.wrap64_in _ (by omega)); first | exact measF hlt3 | exact measFW hlt3 e5
              | false =>
                have HST := Lib.hid (lowL_no HRK.out hlow)
                have HLO := Lib.hid (show ¬ (0 ≤ r.pos ∧ r.pos + (r.dat.size : Int) ≤ 512 ∧ r.pos ≤ 512) from fun q => by rw [PT.lowB_iff.2 q] at hlow; cases hlow)
                clear hlow
                by_cases p0 : 0 ≤ r.pos
                · by_cases p5 : r.pos ≤ 512
                  · have ps : ¬ r.pos + (r.dat.size : Int) ≤ 512 := fun q => HLO.out ⟨p0, q, p5⟩
                    have e1 : wrap64 (r.pos + (r.dat.size : Int)) = r.pos + (r.dat.size : Int) := IntWalk.wrap64_in _ (by omega)
                    have e2 : IntKind.i64.wrap (r.pos + (r.dat.size : Int)) = r.pos + (r.dat.size : Int) := IntWalk.i64_in _ (by omega)
                    have z1 : decide (r.pos + (r.dat.size : Int) ≤ 512) = false := decide_eq_false ps
                    go_wp2_with fail
                    go_quiet (fail)
                    have X : LowInv w4 (wr.drewN nq) K u11 (.int .i64 ((k : Int) + 1)) := ⟨k + 1, by simp, by have := HN4.out; omega, by rw [HST.out]; exact HO.out.keep ((Grow.refl _).drewN _), HG.out.drewN _⟩
                    have HX := Lib.hid X
                    clear X
                    go_wp2_with fail
                    go_roundw
                    have e5 : wrap64 ((k : Int) + 1) = (k : Int) + 1 := IntWalk.wrap64_in _ (by omega)
                    case rel => (try rw [e5]); first | exact HX.out | ((repeat apply Exists.intro); exact HX.out) | ((repeat apply Exists.intro); refine ⟨HX.out, ?_⟩; rfl)
                    case measure => (have e5 : wrap64 ((k : Int) + 1) = (k : Int) + 1 := IntWalk.wrap64_in _ (by omega)); first | exact measF hlt3 | exact measFW hlt3 e5
                  · have z2 : decide (r.pos ≤ 512) = false := decide_eq_false p5
                    by_cases ps : IntKind.i64.wrap (r.pos + (r.dat.size : Int)) ≤ 512
                    · go_wp2_with fail
                      go_quiet (fail)
                      have X : LowInv w4 (wr.drewN nq) K u11 (.int .i64 ((k : Int) + 1)) := ⟨k + 1, by simp, by have := HN4.out; omega, by rw [HST.out]; exact HO.out.keep ((Grow.refl _).drewN _), HG.out.drewN _⟩
                      have HX := Lib.hid X
                      clear X
                      go_wp2_with fail
                      go_roundw
                      have e5 : wrap64 ((k : Int) + 1) = (k : Int) + 1 := IntWalk.wrap64_in _ (by omega)
                      case rel => (try rw [e5]); first | exact HX.out | ((repeat apply Exists.intro); exact HX.out) | ((repeat apply Exists.intro); refine ⟨HX.out, ?_⟩; rfl)
                      case measure => (have e5 : wrap64 ((k : Int) + 1) = (k : Int) + 1 := IntWalk.wrap64_in _ (by omega)); first | exact measF hlt3 | exact measFW hlt3 e5
                    · have z1 : decide (IntKind.i64.wrap (r.pos + (r.dat.size : Int)) ≤ 512) = false := decide_eq_false ps
                      go_wp2_with fail
                      go_quiet (fail)
                      have X : LowInv w4 (wr.drewN nq) K u11 (.int .i64 ((k : Int) + 1)) := ⟨k + 1, by simp, by have := HN4.out; omega, by rw [HST.out]; exact HO.out.keep ((Grow.refl _).drewN _), HG.out.drewN _⟩
                      have HX := Lib.hid X
                      clear X
                      go_wp2_with fail
                      go_roundw
                      have e5 : wrap64 ((k : Int) + 1) = (k : Int) + 1 := IntWalk.wrap64_in _ (by omega)
                      case rel => (try rw [e5]); first | exact HX.out | ((repeat apply Exists.intro); exact HX.out) | ((repeat apply Exists.intro); refine ⟨HX.out, ?_⟩; rfl)
                      case measure => (have e5 : wrap64 ((k : Int) + 1) = (k : Int) + 1 := IntWalk.wrap64_in _ (by omega)); first | exact measF hlt3 | exact measFW hlt3 e5
                · have z0 : decide (0 ≤ r.pos) = false := decide_eq_false p0
                  go_wp2_with fail
                  go_quiet (fail)
                  have X : LowInv w4 (wr.drewN nq) K u11 (.int .i64 ((k : Int) + 1)) := ⟨k + 1, by simp, by have := HN4.out; omega, by rw [HST.out]; exact HO.out.keep ((Grow.refl _).drewN _), HG.out.drewN _⟩
                  have HX := Lib.hid X
                  clear X
                  go_wp2_with fail
                  go_roundw
                  have e5 : wrap64 ((k : Int) + 1) = (k : Int) + 1 := IntWalk.wrap64_in _ (by omega)
                  case rel => (try rw [e5]); first | exact HX.out | ((repeat apply Exists.intro); exact HX.out) | ((repeat apply Exists.intro); refine ⟨HX.out, ?_⟩; rfl)
                  case measure => (have e5 : wrap64 ((k : Int) + 1) = (k : Int) + 1 := IntWalk.wrap64_in _ (by omega)); first | exact measF hlt3 | exact measFW hlt3 e5
            · obtain rfl : k = n4 := by omega
              have HOW := Lib.hid (show OP wr w4.heap.size u11 (lowL K) by have := HO.out; rwa [List.take_of_length_le (by have := HN4.out; omega)] at this)
              have ho6 : (lowL K).length ≤ 6 := Nat.le_trans (lowL_length K) (by have := HN4.out; omega)
              have HOWN := Lib.hid (show (∀ p ∈ lowL K, p.wide) ∧ (∀ p ∈ lowL K, p.lowB = true) ∧ (∀ p ∈ lowL K, p.dat.size ≤ 40) from ⟨fun p hp => HWK.out p (lowL_sub p hp), lowL_low, fun p hp => HFS.out p (lowL_sub p hp)⟩)
              obtain ⟨own, hown⟩ : ∃ z, z = lowL K := ⟨_, rfl⟩
              rw [← hown] at HOW ho6 HOWN
              obtain ⟨A5, c5, rfl, hc5, r5⟩ := HOW.out.rp (by omega)
              obtain ⟨m5, hm5⟩ : ∃ z, z = own.length := ⟨_, rfl⟩
              rw [← hm5] at r5 hc5 ho6 HOW ⊢
              have HM5 := Lib.hid hm5
              have R5 := Lib.hid r5
              have HTK := Lib.hid (HT4.out.keep HG.out)
              have HAK := Lib.hid (HA4.out.keep HG.out)
              have HLX := Lib.hid (show ∀ k, x.F k ∨ x2.F k → k < B from fun k q => q.elim (HB.out.1 k) (HB.out.2.1 k))
              have hBK : B ≤ w4.heap.size := HBZ4.out
              have hBW : B ≤ wr.heap.size := Nat.le_trans hBK HG.out.size
              have hO : ∀ g, (Value.slice A5 m5 c5).ownBlock = some g → ¬ x.F g ∧ ¬ x2.F g := fun g hg => ⟨fun q => by have := (World.ownsRow.lt HOW.out g hg).1; have := HLX.out g (.inl q); omega, fun q => by have := (World.ownsRow.lt HOW.out g hg).1; have := HLX.out g (.inr q); omega⟩
              have HOO := Lib.hid hO
              have hA : ∀ g, u9.ownBlock = some g → B ≤ g ∧ ¬ x.F g ∧ ¬ x2.F g := fun g hg => ⟨(World.ownsRow.lt HAK.out g hg).1, fun q => by have := (World.ownsRow.lt HAK.out g hg).1; have := HLX.out g (.inl q); omega, fun q => by have := (World.ownsRow.lt HAK.out g hg).1; have := HLX.out g (.inr q); omega⟩
              have HAA := Lib.hid hA
              have c1 := HTK.out.p.blk.c4.2.1
              clear hown r5 hm5 hO hA hk' hlt3
              go_wp2_with fail
              refine (lp_append HTK.out.p R5.out HOWN.out.1).mono ?_
              rintro e w5 ⟨rfl, h5, t5⟩
              have HT5 := Lib.hid (HTK.out.left h5 t5)
              have HA5 := Lib.hid (HAK.out.turn t5 fun g hg => (HAA.out g hg).2.1)
              have HO5 := Lib.hid (HOW.out.turn t5 fun g hg => (HOO.out g hg).1)
              have hz5 := t5.size
              have c2 := HT5.out.q.blk.c4.2.1
              obtain ⟨E, hE⟩ : ∃ E, E = apE s.S own := ⟨_, rfl⟩
              rw [← hE]
              have HE := Lib.hid hE
              obtain ⟨A6, c6, e6, -, r6⟩ := HO5.out.rp (by rw [← HM5.out]; omega)
              injection e6 with e61 e62 e63
              subst e61
              rw [← HM5.out] at r6
              have R6 := Lib.hid r6
              clear h5 t5 c1 hE e62 e63 r6
              go_wp2_with fail
              refine (lp_append HT5.out.q R6.out HOWN.out.1).mono ?_
              rintro e w6 ⟨rfl, h6, t6⟩
              have HT6 := Lib.hid (HT5.out.right h6 t6)
              have HA6 := Lib.hid (HA5.out.turn t6 fun g hg => (HAA.out g hg).2.2)
              have HO6 := Lib.hid (HO5.out.turn t6 fun g hg => (HOO.out g hg).2)
              have hz6 := t6.size
              have HB6 := Lib.hid (show B ≤ w6.heap.size by omega)
              rw [← HE.out]
              clear h6 t6 c2
              by_cases hE0 : E = 0
              · have HAI := Lib.hid (append_is HT4.out.p.ok (MS.still_cov HS.out.1) (L := own) (by rw [← HE.out]; exact hE0))
                subst hE0
                obtain ⟨A7, c7, e7, -, r7⟩ := HO6.out.rp (by rw [← HM5.out]; omega)
                injection e7 with e71 e72 e73
                subst e71
                have R7 := Lib.hid r7.2.2
                have hml : all.length + own.length ≤ 1000000 := by have := HS.out.2.2.2.2; rw [← HM5.out]; omega
                clear r7 e72 e73
                go_wp2_with (at_builtin; go_loud (refine wpList_appP rfl (.tmp 106) (.tmp 107) rfl B _ all (by first | rfl | simp) HA6.out w6.heap.size _ _ own m5 HM5.out (by first | rfl | simp) R7.out hml HB6.out ?_; intro v7 w7 q1 q2 q3; clear q3))
                have HT7 := HT6.out.turn (Turn.grown (F := fun k => u9.ownBlock = some k) q2 (fun _ h => h)) HB.out (fun k hk => (HAA.out k hk).1)
                have X : TwInv W w7 B pb l px py d pb2 l2 px2 py2 d2 x x2 n v7 (.int .i64 ((i : Int) + 1)) ∧ B ≤ w7.heap.size := ⟨⟨i + 1, by simp, hlt, hlt2, s.append own, all ++ own, HT7, q1, HAI.out.2.1, by rw [HAI.out.2.2.1, List.flatten_append, HS.out.2.1]; simp, fun p hp => (List.mem_append.1 hp).elim (HS.out.2.2.1 p) (HOWN.out.2.1 p), fun p hp => (List.mem_append.1 hp).elim (HS.out.2.2.2.1 p) (HOWN.out.2.2 p), by have := HS.out.2.2.2.2; rw [List.length_append, ← HM5.out]; omega⟩, Nat.le_trans HB6.out q2.size⟩
                have HX := Lib.hid X
                clear X q1 q2 HT7
                go_wp2_with fail
                go_roundw
                have e5 : wrap64 ((i : Int) + 1) = (i : Int) + 1 := IntWalk.wrap64_in _ (by omega)
                case rel => (try rw [e5]); first | exact HX.out | ((repeat apply Exists.intro); exact HX.out) | ((repeat apply Exists.intro); refine ⟨HX.out, ?_⟩; rfl)
                case measure => (have e5 : wrap64 ((i : Int) + 1) = (i : Int) + 1 := IntWalk.wrap64_in _ (by omega)); first | exact meas hlt2 | (simp [intOf]; omega) | (rw [e5]; simp [intOf]; omega)
              · have hs0 : s.append own = s := by rw [MS.append, if_neg (by rw [← HE.out]; exact hE0)]
                rw [hs0] at HT6
                have X : TwInv W w6 B pb l px py d pb2 l2 px2 py2 d2 x x2 n u9 (.int .i64 ((i : Int) + 1)) ∧ B ≤ w6.heap.size := ⟨⟨i + 1, by simp, hlt, hlt2, s, all, HT6.out, HA6.out, HS.out.1, HS.out.2.1, HS.out.2.2.1, HS.out.2.2.2.1, by have := HS.out.2.2.2.2; omega⟩, HB6.out⟩
                have HX := Lib.hid X
                have z0 : decide (E = 0) = false := decide_eq_false hE0
                clear X hs0
                go_wp2_with fail
                go_roundw
                have e5 : wrap64 ((i : Int) + 1) = (i : Int) + 1 := IntWalk.wrap64_in _ (by omega)
                case rel => (try rw [e5]); first | exact HX.out | ((repeat apply Exists.intro); exact HX.out) | ((repeat apply Exists.intro); refine ⟨HX.out, ?_⟩; rfl)
                case measure => (have e5 : wrap64 ((i : Int) + 1) = (i : Int) + 1 := IntWalk.wrap64_in _ (by omega)); first | exact meas hlt2 | (simp [intOf]; omega) | (rw [e5]; simp [intOf]; omega)
        · go_wp2_with fail
          go_meet
          exact ⟨⟨_, rfl⟩, ⟨s, all, HT.out, HA.out, HS.out.1, HS.out.2.1, HS.out.2.2.1, HS.out.2.2.2.1, by have := HS.out.2.2.2.2; omega⟩, HBZ.out⟩
      · go_wp2_with fail
        go_meet
        exact ⟨⟨_, rfl⟩, ⟨s, all, HT.out, HA.out, HS.out.1, HS.out.2.1, HS.out.2.2.1, HS.out.2.2.2.1, by have := HS.out.2.2.2.2; omega⟩, HBZ.out⟩
  case rest =>
    obtain ⟨⟨zz, rfl⟩, ⟨s, all, htw, hall, hst, hfl, hlow, hsm, hlen⟩, hbz⟩ := hcut
    obtain ⟨A9, c9, rfl, hc9, -⟩ := hall.rp (by omega)
    obtain ⟨n9, hn9⟩ : ∃ z, z = all.length := ⟨_, rfl⟩
    rw [← hn9] at hall hc9 hlen ⊢
    have HN9 := Lib.hid hn9
    have HT := Lib.hid htw
    have HA := Lib.hid hall
    have HS := Lib.hid (And.intro hst (And.intro hfl (And.intro hlow hsm)))
    have HBZ := Lib.hid hbz
    clear htw hall hst hfl hlow hsm hbz hn9
    go_upto_block 4 with fail
    go_cut [16] (fun t wx => (∃ z : Int, t = .int .i64 z) ∧ ∃ k : Nat, TW W wx pb l px py d pb2 l2 px2 py2 d2 x x2 s (s.stores (all.take k)))
    case first =>
      go_wp2_with fail
      go_loopw [16] (fun t wr => StInv W wr B pb l px py d pb2 l2 px2 py2 d2 x x2 s all (.slice A9 n9 c9) t) (fun t _ => n9 - (intOf t).toNat)
      case atStart => exact ⟨0, rfl, Nat.zero_le _, HT.out, HA.out⟩
      case round =>
        obtain ⟨k, rfl, hk, htw1, hall1⟩ := hrel
        have hk' : k ≤ n9 := by have := HN9.out; omega
        have HT1 := Lib.hid htw1
        have HA1 := Lib.hid hall1
        clear htw1 hall1 hk
        by_cases hlt : k < n9
        · by_cases hkst : (k : Int) < st
          · obtain ⟨A', c', e', -, r9⟩ := HA1.out.rp (by rw [← HN9.out]; omega)
            injection e' with e1 e2 e3
            subst e1
            obtain ⟨b9, o9, r, hrk, rfl, hb9, d0, d1⟩ := r9.at_ (i := k) (by rw [← HN9.out]; exact hlt)
            have hrm : r.dat.size ≤ 1000 := by have := HS.out.2.2.2 r (List.mem_of_getElem? hrk); omega
            have HST := Lib.hid (stores_step (s := s) hrk)
            have hbF : ¬ x2.F b9 := fun q => by have := (World.ownsRow.lt HA1.out b9 rfl).1; have := HB.out.2.1 b9 q; omega
            have cl := HT1.out.q.blk.c4.1
            have hsS : (wr.cell? ⟨pb2, 0, none⟩ = some (.pointer (some ⟨px2, 0, none⟩)) ∧ wr.cell? ⟨b9, o9 + k * 2, none⟩ = some (.int .i64 r.pos) ∧ wr.cell? ⟨b9, o9 + k * 2 + 1, none⟩ = some (.string r.dat)) := ⟨cl, d0, d1⟩
            have HFS := Lib.hid (And.intro HT1.out.q.xp hbF)
            obtain ⟨s2, hs2⟩ : ∃ z, z = s.stores (all.take k) := ⟨_, rfl⟩
            rw [← hs2] at HT1 HST
            clear hrk r9 hs2 e2 e3 cl d0 d1 hbF hb9
            go_wp2_with fail
            have kc := fun (u : World) => Lib.run_convert_string_bytes (P := Try.prog) u 9 24 5 r.dat Try.underlying9 Try.underlying24 Try.underlying5
            refine wp_region_held_drew (S := fun w' => w'.cell? ⟨pb2, 0, none⟩ = some (.pointer (some ⟨px2, 0, none⟩)) ∧ w'.cell? ⟨b9, o9 + k * 2, none⟩ = some (.int .i64 r.pos) ∧ w'.cell? ⟨b9, o9 + k * 2 + 1, none⟩ = some (.string r.dat)) (by kernel_rfl) ?_ (fun hHeld => ?_)
            · exact hsS
            refine wpAnyH_take (i := 0) (oi := _) (v := ?_) rfl (by kernel_rfl) (by kernel_rfl) (by kernel_rfl) (fun _ _ _ h => h) (Or.inl ⟨by rfl, ?_⟩) (by assumption) ?_
            rotate_left
            · (intro w hSw; (try dsimp only at hSw); go_simp; (try with_reducible rfl))
            simp only [Act.put, List.setIfInBounds_toArray]
            refine wpAnyH_take (i := 1) (oi := _) (v := ?_) rfl (by kernel_rfl) (by kernel_rfl) (by kernel_rfl) (fun _ _ _ h => h) (Or.inl ⟨by rfl, ?_⟩) (by assumption) ?_
            rotate_left
            · (intro w hSw; (try dsimp only at hSw); go_simp; (try with_reducible rfl))
            simp only [Act.put]
            refine wpAnyH_take (i := 2) (oi := _) (v := ?_) rfl (by kernel_rfl) (by kernel_rfl) (by kernel_rfl) (fun _ _ _ h => h) (Or.inl ⟨by rfl, ?_⟩) (by assumption) ?_
            rotate_left
            · (intro w hSw; (try dsimp only at hSw); go_simp; (try with_reducible rfl))
            simp only [Act.put]
            refine wpAnyH_take (i := 3) (oi := _) (v := ?_) rfl (by kernel_rfl) (by kernel_rfl) (by kernel_rfl) (fun _ _ _ h => h) (Or.inl ⟨by rfl, ?_⟩) (by assumption) ?_
            rotate_left
            · (intro w hSw; (try dsimp only at hSw); go_simp; (try with_reducible rfl))
            simp only [Act.put]
            refine wpAnyH_take (i := 4) (oi := _) (v := ?_) rfl (by kernel_rfl) (by kernel_rfl) (by kernel_rfl) (fun _ _ _ h => h) (Or.inl ⟨by rfl, ?_⟩) (by assumption) ?_
            rotate_left
            · (intro w hSw; (try dsimp only at hSw); go_simp; (try with_reducible rfl))
            simp only [Act.put]
            refine wpAnyH_take (i := 5) (oi := _) (v := ?_) rfl (by kernel_rfl) (by kernel_rfl) (by kernel_rfl) (fun _ _ _ h => h) (Or.inl ⟨by rfl, ?_⟩) (by assumption) ?_
            rotate_left
            · (intro w hSw; (try dsimp only at hSw); go_simp; (try with_reducible rfl))
            simp only [Act.put]
            refine wpAnyH_take (i := 6) (oi := _) (v := ?_) rfl (by kernel_rfl) (by kernel_rfl) (by kernel_rfl) (fun _ _ _ h => h) (Or.inl ⟨by rfl, ?_⟩) (by assumption) ?_
            rotate_left
            · (intro w hSw; (try dsimp only at hSw); go_simp; (try with_reducible rfl))
            simp only [Act.put]
            refine wpAnyH_take (i := 7) (oi := _) (v := ?_) rfl (by kernel_rfl) (by kernel_rfl) (by kernel_rfl) (fun _ _ _ h => h) (Or.inl ⟨by rfl, ?_⟩) (by assumption) ?_
            rotate_left
            · (intro w hSw; (try dsimp only at hSw); go_simp; (try with_reducible rfl))
            simp only [Act.put]
            refine wpAnyH_take (i := 8) (oi := _) (v := ?_) rfl (by kernel_rfl) (by kernel_rfl) (by kernel_rfl) (fun _ _ _ h => h) (Or.inl ⟨by rfl, ?_⟩) (by assumption) ?_
            rotate_left
            · (intro w hSw; (try dsimp only at hSw); go_simp; (try with_reducible rfl))
            simp only [Act.put]
            refine wpAnyH_take (i := 9) (oi := _) (v := ?_) rfl (by kernel_rfl) (by kernel_rfl) (by kernel_rfl) (fun _ _ _ h => h) (Or.inl ⟨by rfl, ?_⟩) (by assumption) ?_
            rotate_left
            · (intro w hSw; (try dsimp only at hSw); go_simp; (try with_reducible rfl))
            simp only [Act.put]
            refine wpAnyH_take (i := 10) (oi := _) (v := ?_) rfl (by kernel_rfl) (by kernel_rfl) (by kernel_rfl) (fun _ _ _ h => h) (Or.inl ⟨by rfl, ?_⟩) (by assumption) ?_
            rotate_left
            · (intro w hSw; (try dsimp only at hSw); go_simp; (try with_reducible rfl))
            simp only [Act.put]
            refine wpAnyH_take (i := 11) (oi := _) (v := ?_) rfl (by kernel_rfl) (by kernel_rfl) (by kernel_rfl) (fun _ _ _ h => h) (Or.inl ⟨by rfl, ?_⟩) (by assumption) ?_
            rotate_left
            · (intro w hSw; (try dsimp only at hSw); go_simp; (try with_reducible rfl))
            simp only [Act.put]
            refine wpAnyH_take (i := 12) (oi := _) (v := ?_) rfl (by kernel_rfl) (by kernel_rfl) (by kernel_rfl) (fun _ _ _ h => h) (Or.inl ⟨by rfl, ?_⟩) (by assumption) ?_
            rotate_left
            · (intro w hSw; (try dsimp only at hSw); go_simp; (try with_reducible rfl))
            simp only [Act.put]
            refine wpAnyH_take (i := 13) (oi := _) (v := ?_) rfl (by kernel_rfl) (by kernel_rfl) (by kernel_rfl) (fun _ _ _ h => h) (Or.inl ⟨by rfl, ?_⟩) (by assumption) ?_
            rotate_left
            · (intro w hSw; (try dsimp only at hSw); go_simp; (try with_reducible rfl))
            simp only [Act.put]
            refine wpAnyH_ready (rs := [14]) (by kernel_rfl) (by simp) ?_
            refine AllReadyH.cons (o := _) rfl (fun K hK => ?_) AllReadyH.nil
            go_simp
            refine hK.out _ _ (st3_grow (bytesGrow _ _) (by assumption)) (fun hHeld2 => ?_)
            clear hK K
            refine wpAnyH_ready (rs := [15]) (by kernel_rfl) (by simp) ?_
            refine AllReadyH.cons (o := _) rfl (fun K hK => ?_) AllReadyH.nil
            go_simp
            refine (lp_store_at HT1.out.q r ?_ _ _ ?_ ?_).mono ?_; (repeat (first | exact Grow.refl _ | refine Grow.drew ?_ | refine Grow.drewN ?_ _ | refine Grow.trans ?_ (bytesGrow _ _))); (first | exact Nat.le_refl _ | simp); (first | exact (bytes_of _ _ (by omega)).1 | exact (bytes_of _ _ (by omega)).1.drew); rintro e w5 ⟨er, rfl, h5, t5, t6⟩; have hs5 := st3_turn (r := r) t5 HFS.out.1 HFS.out.2 (by assumption)
            refine hK.out _ _ hs5 (fun hHeld5 => ?_)
            clear hK K
            refine wpAnyH_done (by kernel_rfl) ?_ _
            have X : StInv W w5 B pb l px py d pb2 l2 px2 py2 d2 x x2 s all (.slice (some ⟨b9, o9, none⟩) n9 c9) (.int .i64 ((k : Int) + 1)) := ⟨k + 1, by simp, by have := HN9.out; omega, by rw [HST.out]; exact HT1.out.right h5 t6, HA1.out.turn t6 fun g hg => by injection hg with hg; rw [← hg]; exact HFS.out.2⟩
            have HX := Lib.hid X
            clear X h5 t5 t6 kc hsS hs5
            go_wp2_with fail
            go_roundw
            have e5 : wrap64 ((k : Int) + 1) = (k : Int) + 1 := IntWalk.wrap64_in _ (by omega)
            case rel => (try rw [e5]); first | exact HX.out | ((repeat apply Exists.intro); exact HX.out) | ((repeat apply Exists.intro); refine ⟨HX.out, ?_⟩; rfl)
            case measure => (have e5 : wrap64 ((k : Int) + 1) = (k : Int) + 1 := IntWalk.wrap64_in _ (by omega)); first | exact measF hlt | exact measFW hlt e5
          · go_wp2_with fail
            go_meet
            exact ⟨⟨_, rfl⟩, k, HT1.out⟩
        · go_wp2_with fail
          go_meet
          exact ⟨⟨_, rfl⟩, k, HT1.out⟩
    case rest =>
      obtain ⟨⟨zz2, rfl⟩, k, htw2⟩ := hcut
      have HT2 := Lib.hid htw2
      have HTS := Lib.hid (fun pk2 => twice_same htw2.p.ok HS.out.1 HS.out.2.1 HS.out.2.2.1 k pk2)
      obtain ⟨s2, hs2⟩ : ∃ z, z = s.stores (all.take k) := ⟨_, rfl⟩
      rw [← hs2] at HT2 HTS
      clear htw2 hs2
      go_upto_if 138 with fail
      go_cut [2] (fun v wx => v = .slice Q (min q 200) dq ∧ TW W wx pb l px py d pb2 l2 px2 py2 d2 x x2 s s2)
      case first =>
        by_cases hqq : 200 < q
        · have z1 : decide (200 < q) = true := decide_eq_true hqq
          have z2 : decide ((200 : Int) < (q : Int)) = true := decide_eq_true (by omega)
          have HMIN := Lib.hid (show min q 200 = 200 from Nat.min_eq_right (by omega))
          have hd2 : 200 ≤ dq := by omega
          go_wp2_with fail
          all_goals first | (exfalso; omega) | (go_meet; exact ⟨by rw [HMIN.out], HT2.out⟩)
        · have z1 : decide (200 < q) = false := decide_eq_false hqq
          have z2 : decide ((200 : Int) < (q : Int)) = false := decide_eq_false (by omega)
          have HMIN := Lib.hid (show min q 200 = q from Nat.min_eq_left (by omega))
          go_wp2_with fail
          all_goals first | (exfalso; omega) | (go_meet; exact ⟨by rw [HMIN.out], HT2.out⟩)
      case rest =>
        obtain ⟨rfl, hTx⟩ := hcut
        have HTX := Lib.hid hTx
        clear hTx
        have HQ2 := Lib.hid ((HQ.out.take (k := min q 200) (Nat.min_le_left _ _)).keep HTX.out.p.g)
        have HQF := Lib.hid (show 0 < min q 200 → ∀ p, Q = some p → ¬ x2.F p.block from fun h0 p hp k => by
          have := ri_low HQ.out (by omega) p hp
          have := HTX.out.q.xb _ k
          omega)
        obtain ⟨pk2, hpk2⟩ : ∃ z, z = pk.take (min q 200) := ⟨_, rfl⟩
        obtain ⟨q2, hq2⟩ : ∃ z, z = min q 200 := ⟨_, rfl⟩
        rw [← hpk2, ← hq2] at HQ2
        rw [← hq2] at HQF ⊢
        have b0 := HTX.out.q.blk.c4.1
        have HTZ := Lib.hid (HTS.out pk2)
        clear hpk2 hq2
        go_wp2_with fail
        refine (lp_crash HTX.out.q HQ2.out HQF.out).mono ?_
        rintro e w9 ⟨rfl, x3, h9, t9, hx3⟩
        have HT9 := Lib.hid (HTX.out.rightx h9 t9 hx3)
        obtain ⟨s9, hs9⟩ : ∃ z, z = s2.crash pk2 := ⟨_, rfl⟩
        rw [← hs9] at HT9 HTZ
        have b1 := HT9.out.p.blk.c4.2.1
        clear h9 t9 hx3 b0 hs9
        go_wp2_with fail
        refine (lp_redo HT9.out.p).mono ?_
        rintro e w10 ⟨rfl, h10, t10⟩
        have HT10 := Lib.hid (HT9.out.left h10 t10)
        obtain ⟨M, hM⟩ : ∃ z, z = (lgL s.S).length := ⟨_, rfl⟩
        rw [← hM]
        have HM := Lib.hid hM
        have b2 := HT10.out.q.blk.c4.2.1
        clear h10 t10 b1 hM
        go_wp2_with fail
        refine (lp_redo HT10.out.q).mono ?_
        rintro e w11 ⟨rfl, h11, t11⟩
        have HT11 := Lib.hid (HT10.out.right h11 t11)
        rw [HTZ.out.1, ← HM.out]
        have b3 := HT11.out.p.blk.c4.1
        clear h11 t11 b2
        go_wp2_with fail
        refine (lp_lasts HT11.out.p).mono ?_
        rintro e w12 ⟨A12, c12, rfl, o12, g12⟩
        have O12 := Lib.hid o12
        have HT12 := Lib.hid (HT11.out.keep g12)
        have b4 := HT12.out.q.blk.c4.1
        clear o12 g12 b3
        go_wp2_with fail
        refine (lp_lasts HT12.out.q).mono ?_
        rintro e w13 ⟨A13, c13, rfl, o13, g13⟩
        have O13 := Lib.hid o13
        have O12' := Lib.hid (O12.out.keep g13)
        have HT13 := Lib.hid (HT12.out.keep g13)
        clear o13 g13 b4 O12
        go_wp2_with fail
        refine (same_yes O12'.out O13.out HTZ.out.2.1).mono ?_
        rintro e w14 ⟨rfl, n14, hw14⟩
        have HT14 := Lib.hid (show TW W w14 pb l px py d pb2 l2 px2 py2 d2 x x3 s.redo s9.redo by rw [hw14]; exact HT13.out.keep ((Grow.refl _).drewN n14))
        have b5 := HT14.out.p.blk.c4.2.1
        clear hw14
        go_wp2_with fail
        refine (lp_end HT14.out.p HTZ.out.2.2.1).mono ?_
        rintro e w15 ⟨rfl, g15⟩
        have HT15 := Lib.hid (HT14.out.keep g15)
        have b6 := HT15.out.q.blk.c4.2.1
        clear g15 b5
        go_wp2_with fail
        refine (lp_end HT15.out.q HTZ.out.2.2.2).mono ?_
        rintro e w16 ⟨rfl, g16⟩
        have HT16 := Lib.hid (HT15.out.keep g16)
        clear g16 b6
        go_wp2_with fail
        refine (lives8 _).mono ?_
        rintro e w17 ⟨rfl, g17⟩
        have GG := Lib.hid (HT16.out.p.g.trans g17)
        clear g17
        go_wp2_with fail
        go_ret
        exact ⟨rfl, GG.out⟩
end Go.Proofs.Ytncjfljmnkfghaa
