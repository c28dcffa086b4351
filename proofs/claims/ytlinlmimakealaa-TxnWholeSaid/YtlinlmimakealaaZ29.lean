/- The program's side of a pair, verb by verb; two of them. No statement of the seat is proved here. -/
import Derived.Test.YtlinlmimakealaaZ24
import Derived.Test.YtlinlmimakealaaZ28
namespace Go.Proofs.Ytlinlmimakealaa
open Go.RowKit

section
variable {W w w' wz : World} {pb l t d px py : Nat} {x x' : MB} {s s' : MS} {L L' : List PT} {v v' : Value} {F : Nat → Prop}
theorem TP.mem (h : TP W w pb l t py d px x s L v) (h1 : TX w' W.heap.size t l x s' L v) (k : Turn x.F w w') : TP W w' pb l t py d px x s' L v := h.step h1 (k.mono fun _ q => tf_mem q) rfl fun _ q => .inl q
theorem tp_mstore (h : TP W w pb l t py d px x s L v) {B : Option Addr} {m c : Nat} {bs : List UInt8} (hs : Sl w B m bs) (hB : 0 < m → ∀ p, B = some p → ¬ x.F p.block) (a : Int) :
    Calls Try.prog 17 #[.pointer (some ⟨px, 0, none⟩), .int .i64 a, .slice B m c] w fun e w' => (∃ er, e = .returned (.int .i64 er)) ∧ TP W w' pb l t py d px x (s.store a bs) L v ∧ Turn x.F w w' := by
  obtain rfl := h.p
  refine (tx_mstore h.tx hs hB a).mono ?_
  rintro e w' ⟨rfl, h1, t1⟩
  exact ⟨⟨_, rfl⟩, h.mem h1 t1, t1⟩
theorem tp_flush (h : TP W w pb l t py d px x s L v) (a n : Int) (h1 : -9223372036854775808 ≤ n) (h2 : n ≤ 9223372036854775807) :
    Calls Try.prog 18 #[.pointer (some ⟨px, 0, none⟩), .int .i64 a, .int .i64 n] w fun e w' => (∃ er, e = .returned (.int .i64 er)) ∧ TP W w' pb l t py d px x (s.flush a n) L v ∧ Turn x.F w w' := by
  obtain rfl := h.p
  refine (pm_flushU h.tx.lg.1 a n h1 h2).mono ?_
  rintro e w' ⟨rfl, h5, t5⟩
  exact ⟨⟨_, rfl⟩, h.mem (h.tx.mem ⟨h5, h.tx.lg.2.1.turn t5 h.tx.lg.2.2, h.tx.lg.2.2⟩ t5) t5, t5⟩
theorem tp_fence (h : TP W w pb l t py d px x s L v) :
    Calls Try.prog 19 #[.pointer (some ⟨px, 0, none⟩)] w fun e w' => e = .returned (.tuple #[]) ∧ TP W w' pb l t py d px x s.fence L v ∧ Turn x.F w w' := by
  obtain rfl := h.p
  refine (pm_fence h.tx.lg.1).mono ?_
  rintro e w' ⟨rfl, h5, t5⟩
  exact ⟨rfl, h.mem (h.tx.mem ⟨h5, h.tx.lg.2.1.turn t5 h.tx.lg.2.2, h.tx.lg.2.2⟩ t5) t5, t5⟩
theorem tp_crash (h : TP W w pb l t py d px x s L v) {B : Option Addr} {m c : Nat} {pk : List Int} (hs : RI w B m pk) (hB : 0 < m → ∀ p, B = some p → ¬ x.F p.block) :
    Calls Try.prog 21 #[.pointer (some ⟨px, 0, none⟩), .slice B m c] w fun e w' => e = .returned (.tuple #[]) ∧ ∃ x', TP W w' pb l t py d px x' (s.crash pk) L v ∧ Turn x.F w w' ∧ ∀ i, x'.F i → x.F i ∨ w.heap.size ≤ i := by
  obtain rfl := h.p
  refine (tx_crash h.tx hs hB).mono ?_
  rintro e w' ⟨rfl, x', hx, h1, t1, n1⟩
  exact ⟨rfl, x', h.step h1 (t1.mono fun i q => tf_mem q) hx fun i q => q.elim (fun q => (n1 i q).imp tf_mem id) (fun q => .inl (.inr q)), t1, n1⟩
theorem tp_redo (h : TP W w pb l t py d px x s L v) :
    Calls Try.prog 22 #[.pointer (some ⟨l, 0, none⟩)] w fun e w' => e = .returned (.int .i64 ((lgL s.S).length : Nat)) ∧ TP W w' pb l t py d px x s.redo L v ∧ Turn x.F w w' := by
  refine (pl_redo h.tx.lg).mono ?_
  rintro e w' ⟨rfl, h5, t5⟩
  exact ⟨rfl, h.mem (h.tx.mem h5 t5) t5, t5⟩
theorem tp_lasts (h : TP W w pb l t py d px x s L v) :
    Calls Try.prog 16 #[.pointer (some ⟨px, 0, none⟩), .int .i64 0, .int .i64 512] w fun e w' => ∃ A c, e = .returned (.tuple #[.slice A 512 c, .int .i64 0]) ∧ Own w' w.heap.size A 512 c (s.T.take 512) ∧ Grow w w' := by
  obtain rfl := h.p
  refine (pm_lasts h.tx.lg.1 0 512 (by decide)).mono ?_
  rintro e w' ⟨A, c, rfl, o, g⟩
  rw [List.drop_zero] at o
  exact ⟨A, c, rfl, o, g⟩
theorem tp_load (h : TP W w pb l t py d px x s L v) :
    Calls Try.prog 14 #[.pointer (some ⟨px, 0, none⟩), .int .i64 0, .int .i64 512] w fun e w' => ∃ A c, e = .returned (.tuple #[.slice A 512 c, .int .i64 0]) ∧ Own w' w.heap.size A 512 c ((s.S.drop 0).take 512) ∧ Grow w w' := by
  obtain rfl := h.p
  exact pm_load h.tx.lg.1 0 512 (by decide)
theorem tp_store_at (h : TP W w pb l t py d px x s L v) (r : PT) (g : Grow w wz) (k c : Nat) (hk : w.heap.size ≤ k) (hs : Sl wz (some ⟨k, 0, none⟩) r.dat.size r.txt) :
    Calls Try.prog 9 #[.pointer (some ⟨t, 0, none⟩), .int .i64 r.pos, .slice (some ⟨k, 0, none⟩) r.dat.size c] wz fun e w' => (∃ er, e = .returned (.int .i64 er)) ∧ ∃ v', TP W w' pb l t py d px x s (stL L r.pos r.txt) v' ∧ Turn (TF t x v) wz w' ∧ Turn (TF t x v) w w' ∧ ∀ i, TF t x v' i → TF t x v i ∨ w.heap.size ≤ i := by
  refine (tp_store (h.keep g) hs (fun _ p hp q => ?_) r.pos).mono ?_
  · injection hp with hp; subst hp
    have := h.tx.tfl k q
    omega
  rintro e w' ⟨rfl, v1, h1, t1, n1⟩
  exact ⟨⟨_, rfl⟩, v1, h1, t1, (Turn.grow g _).and t1, fun i q => (n1 i q).imp id fun q => Nat.le_trans g.size q⟩
theorem tp_mstore_at (h : TP W w pb l t py d px x s L v) (r : PT) (g : Grow w wz) (k c : Nat) (hk : w.heap.size ≤ k) (hs : Sl wz (some ⟨k, 0, none⟩) r.dat.size r.txt) :
    Calls Try.prog 17 #[.pointer (some ⟨px, 0, none⟩), .int .i64 r.pos, .slice (some ⟨k, 0, none⟩) r.dat.size c] wz fun e w' => (∃ er, e = .returned (.int .i64 er)) ∧ TP W w' pb l t py d px x (s.store r.pos r.txt) L v ∧ Turn x.F wz w' ∧ Turn x.F w w' := by
  refine (tp_mstore (h.keep g) hs (fun _ p hp q => ?_) r.pos).mono ?_
  · injection hp with hp; subst hp
    have q' : x.F k := q
    have := h.tx.lg.1.lt k q'
    omega
  rintro e w' ⟨⟨er, rfl⟩, h1, t1⟩
  exact ⟨⟨_, rfl⟩, h1, t1, (Turn.grow g _).and t1⟩
end
theorem Own.blt {w : World} {base n c : Nat} {A : Option Addr} {bs : List UInt8} (h : Own w base A n c bs) : 0 < n → ∀ p, A = some p → p.block < w.heap.size := by
  intro h0 p hp
  obtain ⟨g, e, h1, h2⟩ := h.row h0
  rw [e] at hp
  injection hp with hp
  subst hp
  exact h2
theorem stL_low {L : List PT} {r : PT} (hr : r.lowB = true) (hs : r.dat.size ≤ 40) (hn : L.length < 64) : stL L r.pos r.txt = L ++ [r] := by
  obtain ⟨h1, h2, h3⟩ := PT.lowB_iff.1 hr
  have hl := r.txt_length
  have e : stO L r.pos r.txt.length = true := by
    unfold stO
    rw [hl, low_in hr, decide_eq_true (show r.dat.size ≤ 256 by omega), decide_eq_true hn]; rfl
  unfold stL
  rw [e, if_pos rfl]
  obtain ⟨p, dat⟩ := r
  congr 2
/-- Two pairs' program's sides, the patches that were gathered and that the first one holds. -/
structure WW (W w : World) (B pb l t py d px pb2 l2 t2 py2 d2 px2 : Nat) (x x2 : MB) (Lo Lp : List PT) (v val : Value) : Prop where
  p : TP W w pb l t py d px x fresh Lp v
  q : TP W w pb2 l2 t2 py2 d2 px2 x2 fresh [] (.slice none 0 0)
  o : OP w B val Lo
  ap : ∀ k, TF t x v k → ¬ TF t2 x2 (.slice none 0 0) k ∧ k ≠ l2 ∧ k ≠ pb2
  ao : ∀ g, val.ownBlock = some g → ¬ TF t x v g
  b2 : ∀ k, TF t2 x2 (.slice none 0 0) k → k < B
  bs : l2 < B ∧ pb2 < B ∧ l < B ∧ pb < B ∧ W.heap.size ≤ B ∧ B ≤ w.heap.size
section
variable {W w w' wz : World} {B pb l t py d px pb2 l2 t2 py2 d2 px2 : Nat} {x x2 : MB} {Lo Lp : List PT} {v val v' val' : Value}
theorem WW.keep (h : WW W w B pb l t py d px pb2 l2 t2 py2 d2 px2 x x2 Lo Lp v val) (g : Grow w w') : WW W w' B pb l t py d px pb2 l2 t2 py2 d2 px2 x x2 Lo Lp v val :=
  ⟨h.p.keep g, h.q.keep g, h.o.keep g, h.ap, h.ao, h.b2, by obtain ⟨h1, h2, h3, h4, h5, h6⟩ := h.bs; exact ⟨h1, h2, h3, h4, h5, Nat.le_trans h6 g.size⟩⟩
theorem WW.app {r : PT} (h : WW W w B pb l t py d px pb2 l2 t2 py2 d2 px2 x x2 Lo Lp v val) (g : Grow w wz) (h1 : OP w' B val' (Lo ++ [r])) (h2 : wz.grownBy w' val.ownBlock) (h3 : val'.ownBlock = val.ownBlock ∨ val'.ownBlock = some wz.heap.size) :
    WW W w' B pb l t py d px pb2 l2 t2 py2 d2 px2 x x2 (Lo ++ [r]) Lp v val' := by
  have hz := h.keep g
  obtain ⟨q1, q2, q3, q4, q5, q6⟩ := hz.bs
  have tt : Turn (fun k => val.ownBlock = some k) wz w' := Turn.grown h2 fun _ e => e
  have lb : ∀ k, val.ownBlock = some k → B ≤ k := fun k e => (World.ownsRow.lt hz.o k e).1
  refine ⟨hz.p.turn tt fun i e => ⟨hz.ao i e, by have := lb i e; omega, by have := lb i e; omega, by have := lb i e; omega⟩, hz.q.turn tt fun i e => ⟨fun z => by have := lb i e; have := hz.b2 i z; omega, by have := lb i e; omega, by have := lb i e; omega, by have := lb i e; omega⟩, h1, hz.ap, fun k e z => ?_, hz.b2, ⟨q1, q2, q3, q4, q5, Nat.le_trans q6 tt.size⟩⟩
  rcases h3 with h3 | h3
  · exact hz.ao k (h3 ▸ e) z
  · rw [h3] at e; injection e with e; subst e
    have := hz.p.tx.tfl _ z
    omega
theorem WW.store {Lp' : List PT} (h : WW W w B pb l t py d px pb2 l2 t2 py2 d2 px2 x x2 Lo Lp v val) (h1 : TP W w' pb l t py d px x fresh Lp' v') (h2 : Turn (TF t x v) w w') (h3 : ∀ i, TF t x v' i → TF t x v i ∨ w.heap.size ≤ i) :
    WW W w' B pb l t py d px pb2 l2 t2 py2 d2 px2 x x2 Lo Lp' v' val := by
  obtain ⟨q1, q2, q3, q4, q5, q6⟩ := h.bs
  refine ⟨h1, h.q.turn h2 fun i e => ⟨(h.ap i e).1, (h.ap i e).2.1, (h.ap i e).2.2, h.p.xb i e⟩, h.o.turn h2 fun g e z => h.ao g e z, fun k e => ?_, fun g e z => ?_, h.b2, ⟨q1, q2, q3, q4, q5, Nat.le_trans q6 h2.size⟩⟩
  · rcases h3 k e with e | e
    · exact h.ap k e
    · exact ⟨fun z => by have := h.b2 k z; omega, by omega, by omega⟩
  · rcases h3 g z with z | z
    · exact h.ao g e z
    · have := (World.ownsRow.lt h.o g e).2; omega
end
theorem begin_ww {W w1 w2 : World} {pb l t dl d pb2 l2 t2 dl2 d2 : Nat} {x y x2 y2 : MB} (hp : PY w1 W.heap.size pb l t dl d x y fresh [] (.slice none 0 0) (.slice none 0 0)) (g1 : Grow W w1)
    (hq : PY w2 w1.heap.size pb2 l2 t2 dl2 d2 x2 y2 fresh [] (.slice none 0 0) (.slice none 0 0)) (g2 : Grow w1 w2) (hl2 : w1.heap.size ≤ l2) (hb2 : w1.heap.size ≤ pb2) :
    WW W w2 w2.heap.size pb l t y.p d x.p pb2 l2 t2 y2.p d2 x2.p x x2 [] [] (.slice none 0 0) (.slice none 0 0) := by
  have hz1 := g1.size
  have hz2 := g2.size
  have h1 := hp.tx.lg.2.1.1
  have h2 := hp.blk.1
  have h3 := hq.tx.lg.2.1.1
  have h4 := hq.blk.1
  refine ⟨(hp.tp g1).keep g2, ⟨⟨hq.tx.lg, hq.tx.blk, OP.nil _ _, hq.tx.xt, hq.tx.tl, hq.tx.vx, hq.tx.held⟩, rfl, hq.blk, hq.xp, fun k q => by have := hq.xb k q; omega, g1.trans g2⟩, OP.nil _ _, fun k q => ?_, fun g e => (by cases e), fun k q => hq.tx.tfl k q, ⟨h3, h4, by omega, by omega, by omega, Nat.le_refl _⟩⟩
  have := hp.tx.tfl k q
  exact ⟨fun z => by have := hq.xb k z; omega, by omega, by omega⟩
end Go.Proofs.Ytlinlmimakealaa
