/- The program's memory and log of a pair, verb by verb. A transaction, the program's (TX) and the document's (RX): what lies where. (*commons/txn.Txn).Store: one patch more, or none. Load of a transaction: the memory's bytes, and its own patches over them. No statement of the seat is proved here. -/
import Derived.Test.YtlinlmimakealaaZ17
import Derived.Test.YtlinlmimakealaaZ14
import Derived.Test.YtlinlmimakealaaZ16
import Derived.Test.YtlinlmimakealaaZ15
import Derived.Test.YtlinlmimakealaaZ12
import Derived.Test.YtlinlmimakealaaZ08
namespace Go.Proofs.Ytlinlmimakealaa
open Go.RowKit

/-- The program's side of a pair at pb: its memory (px) and its log l in the state s; what was there at W is as it was. -/
structure LP (W w : World) (pb l px py d : Nat) (x : MB) (s : MS) : Prop where
  lg : LG w l x s
  p : x.p = px
  blk : Blk w pb [.pointer (some ⟨px, 0, none⟩), .pointer (some ⟨l, 0, none⟩), .pointer (some ⟨py, 0, none⟩), .pointer (some ⟨d, 0, none⟩)]
  xp : ¬ x.F pb
  xb : ∀ k, x.F k → W.heap.size ≤ k
  g : Grow W w
section
variable {W w w' : World} {pb l px py d : Nat} {x : MB} {s s' : MS}
theorem LP.keep (h : LP W w pb l px py d x s) (k : Grow w w') : LP W w' pb l px py d x s := ⟨h.lg.keep k, h.p, h.blk.keep k, h.xp, h.xb, h.g.trans k⟩
theorem LP.step (h : LP W w pb l px py d x s) (h1 : LG w' l x s') (t : Turn x.F w w') : LP W w' pb l px py d x s' := ⟨h1, h.p, h.blk.turn t h.xp, h.xp, h.xb, h.g.low (t.low h.xb h.g.size)⟩
theorem LP.ok (h : LP W w pb l px py d x s) : s.ok := ⟨h.lg.1.lenS, h.lg.1.lenT, h.lg.1.lenA⟩
theorem LP.lt (h : LP W w pb l px py d x s) : ∀ k, x.F k → k < w.heap.size := h.lg.1.lt
theorem PX.lp {y : MB} (h : PX w W.heap.size pb l d x y s) (g : Grow W w) : LP W w pb l x.p y.p d x s := ⟨h.lg, rfl, h.blk, h.xp, h.xb, g⟩

theorem lp_flush (h : LP W w pb l px py d x s) (a n : Int) (h1 : -9223372036854775808 ≤ n) (h2 : n ≤ 9223372036854775807) :
    Calls Try.prog 18 #[.pointer (some ⟨px, 0, none⟩), .int .i64 a, .int .i64 n] w fun e w' => (∃ er, e = .returned (.int .i64 er)) ∧ LP W w' pb l px py d x (s.flush a n) ∧ Turn x.F w w' := by
  obtain rfl := h.p
  refine (pm_flushU h.lg.1 a n h1 h2).mono ?_
  rintro e w' ⟨rfl, h5, t5⟩
  exact ⟨⟨_, rfl⟩, h.step ⟨h5, h.lg.2.1.turn t5 h.lg.2.2, h.lg.2.2⟩ t5, t5⟩
theorem lp_fence (h : LP W w pb l px py d x s) :
    Calls Try.prog 19 #[.pointer (some ⟨px, 0, none⟩)] w fun e w' => e = .returned (.tuple #[]) ∧ LP W w' pb l px py d x s.fence ∧ Turn x.F w w' := by
  obtain rfl := h.p
  refine (pm_fence h.lg.1).mono ?_
  rintro e w' ⟨rfl, h5, t5⟩
  exact ⟨rfl, h.step ⟨h5, h.lg.2.1.turn t5 h.lg.2.2, h.lg.2.2⟩ t5, t5⟩
theorem lp_store (h : LP W w pb l px py d x s) {B : Option Addr} {m c : Nat} {bs : List UInt8} (hs : Sl w B m bs) (hB : 0 < m → ∀ p, B = some p → ¬ x.F p.block) (a : Int) :
    Calls Try.prog 17 #[.pointer (some ⟨px, 0, none⟩), .int .i64 a, .slice B m c] w fun e w' => (∃ er, e = .returned (.int .i64 er)) ∧ LP W w' pb l px py d x (s.store a bs) ∧ Turn x.F w w' := by
  obtain rfl := h.p
  refine (pm_storeU h.lg.1 hs hB a).mono ?_
  rintro e w' ⟨rfl, h5, t5⟩
  have hl := hs.1
  refine ⟨⟨_, rfl⟩, h.step ⟨?_, h.lg.2.1.turn t5 h.lg.2.2, h.lg.2.2⟩ t5, t5⟩
  simp only [MS.store]
  rw [hl]
  exact h5
theorem lp_crash (h : LP W w pb l px py d x s) {B : Option Addr} {m c : Nat} {pk : List Int} (hs : RI w B m pk) (hB : 0 < m → ∀ p, B = some p → ¬ x.F p.block) :
    Calls Try.prog 21 #[.pointer (some ⟨px, 0, none⟩), .slice B m c] w fun e w' => e = .returned (.tuple #[]) ∧ ∃ x', LP W w' pb l px py d x' (s.crash pk) ∧ Turn x.F w w' ∧ ∀ k, x'.F k → x.F k ∨ w.heap.size ≤ k := by
  obtain rfl := h.p
  refine (pm_crash h.lg.1 hs hB).mono ?_
  rintro e w' ⟨rfl, g', hg, h5, t5⟩
  have hF : ∀ k, (⟨x.p, g', x.gt, x.b⟩ : MB).F k → x.F k ∨ k = g' := by
    rintro k (q | q | q | q)
    · exact .inl (.inl q)
    · exact .inr q
    · exact .inl (.inr (.inr (.inl q)))
    · exact .inl (.inr (.inr (.inr q)))
  have hl := h.lg.2.1.1
  have hp := h.blk.1
  have hz := h.g.size
  refine ⟨rfl, ⟨x.p, g', x.gt, x.b⟩, ⟨⟨h5, h.lg.2.1.turn t5 h.lg.2.2, fun q => ?_⟩, rfl, h.blk.turn t5 h.xp, fun q => ?_, fun k q => ?_, h.g.low (t5.low h.xb h.g.size)⟩, t5, fun k q => (hF k q).imp id fun q2 => by omega⟩
  · rcases hF _ q with q3 | q3
    · exact h.lg.2.2 q3
    · omega
  · rcases hF _ q with q3 | q3
    · exact h.xp q3
    · omega
  · rcases hF _ q with q3 | q3
    · exact h.xb k q3
    · omega
theorem lp_append (h : LP W w pb l px py d x s) {A : Option Addr} {n c : Nat} {L : List PT} (hr : RP w A n L) (hw : ∀ p ∈ L, p.wide) :
    Calls Try.prog 37 #[.pointer (some ⟨l, 0, none⟩), .slice A n c] w fun e w' => e = .returned (.int .i64 (apE s.S L)) ∧ LP W w' pb l px py d x (s.append L) ∧ Turn x.F w w' := by
  refine (pl_append h.lg hr hw).mono ?_
  rintro e w' ⟨rfl, h5, t5⟩
  exact ⟨rfl, h.step h5 t5, t5⟩
theorem lp_redo (h : LP W w pb l px py d x s) :
    Calls Try.prog 22 #[.pointer (some ⟨l, 0, none⟩)] w fun e w' => e = .returned (.int .i64 ((lgL s.S).length : Nat)) ∧ LP W w' pb l px py d x s.redo ∧ Turn x.F w w' := by
  refine (pl_redo h.lg).mono ?_
  rintro e w' ⟨rfl, h5, t5⟩
  exact ⟨rfl, h.step h5 t5, t5⟩
end
theorem recs_small {s : MS} {R : List RW} (h : R.map RW.L = lgL s.S) : ∀ r ∈ R, r.L.length ≤ 60000 := fun r hr => by
  have := (rcL_few _ (lgB s.S) (Nat.le_refl _) r.L (by have : r.L ∈ R.map RW.L := List.mem_map_of_mem hr; rw [h] at this; exact this)).1
  omega
/-- After a flush of all and a fence all that is seen lasts. -/
theorem flush_all {s : MS} (h : s.ok) : (s.flush 0 1024).fence.still := by
  refine MS.fence_still (h.ok_flush _ _) ?_
  rw [MS.flush_in (by decide)]
  intro k hk hd
  rw [flushA_get _ _ _ _ _ (by rw [h.A]; exact hk), hd]
  have : lineB (Int.toNat 0) (Int.toNat 1024) k = true := by
    simp only [lineB, decide_eq_true_eq, Int.toNat_zero, show Int.toNat 1024 = 1024 from rfl]
    omega
  rw [this]; simp
theorem still_crash {s : MS} (hs : s.still) (pk : List Int) : (s.crash pk).S = s.S := by
  show mixL s.S s.T _ = s.S
  rw [← show s.S = s.T from hs]
  refine ext_getD (by rw [mixL_length]) fun j hj => ?_
  rw [mixL_length] at hj
  rw [mixL_get _ _ _ _ hj]; simp
end Go.Proofs.Ytlinlmimakealaa

namespace Go.Proofs.Ytlinlmimakealaa
open Go.RowKit

/-- May these bytes be stored? -/
def stO (L : List PT) (a : Int) (m : Nat) : Bool := inW 1024 a m && (decide (m ≤ 256) && decide (L.length < 64))
def stL (L : List PT) (a : Int) (bs : List UInt8) : List PT := if stO L a bs.length then L ++ [⟨a, ⟨bs.toArray⟩⟩] else L
def cmE (s : MS) (L : List PT) : Int := if L.length = 0 then 0 else apE s.S L
def cmS (s : MS) (L : List PT) : MS := if L.length = 0 then s else if apE s.S L = 0 then (s.append L).redo else s
def cmL (s : MS) (L : List PT) : List PT := if L.length = 0 then [] else if apE s.S L = 0 then [] else L
/-- What a transaction may hold. -/
structure Held (L : List PT) : Prop where
  few : L.length ≤ 64
  fit : ∀ p ∈ L, p.fits
theorem Held.nil : Held [] := ⟨by simp, fun p hp => by simp at hp⟩
theorem Held.wide {L : List PT} (h : Held L) : ∀ p ∈ L, p.wide := fun p hp => (h.fit p hp).wide
theorem Held.store {L : List PT} (h : Held L) (a : Int) (bs : List UInt8) : Held (stL L a bs) := by
  unfold stL
  split
  · rename_i h1
    simp only [stO, Bool.and_eq_true, decide_eq_true_eq] at h1
    obtain ⟨h2, h3, h4⟩ := h1
    obtain ⟨q1, q2, q3⟩ := inW_iff.1 h2
    refine ⟨by simp; omega, fun p hp => ?_⟩
    rcases List.mem_append.1 hp with hp | hp
    · exact h.fit p hp
    · simp at hp
      subst hp
      have : (⟨bs.toArray⟩ : ByteArray).size = bs.length := by simp [ByteArray.size]
      refine ⟨q1, ?_, ?_⟩
      · simp only [this]; omega
      · simp only [this]; omega
  · exact h
theorem Held.commit {s : MS} {L : List PT} (h : Held L) : Held (cmL s L) := by
  unfold cmL
  split
  · exact Held.nil
  · split
    · exact Held.nil
    · exact h

structure TX (w : World) (base t l : Nat) (x : MB) (s : MS) (L : List PT) (v : Value) : Prop where
  lg : LG w l x s
  blk : Row w t [.pointer (some ⟨x.p, 0, none⟩), .pointer (some ⟨l, 0, none⟩), v]
  row : OP w base v L
  xt : ¬ x.F t
  tl : t ≠ l
  vx : ∀ g, v.ownBlock = some g → ¬ x.F g ∧ g ≠ t ∧ g ≠ l
  held : Held L
structure RX (w : World) (base t l : Nat) (x : MB) (s : MS) (L : List PT) (v : Value) : Prop where
  lg : RL w l x s
  blk : Row w t [.pointer (some ⟨x.p, 0, none⟩), .pointer (some ⟨l, 0, none⟩), v]
  row : OP w base v L
  xt : ¬ x.F t
  tl : t ≠ l
  vx : ∀ g, v.ownBlock = some g → ¬ x.F g ∧ g ≠ t ∧ g ≠ l
  held : Held L
/-- The blocks of a transaction. -/
def TF (t : Nat) (x : MB) (v : Value) (k : Nat) : Prop := x.F k ∨ k = t ∨ v.ownBlock = some k
section
variable {w w' : World} {base t l : Nat} {x : MB} {s s' : MS} {L : List PT} {v : Value} {F : Nat → Prop}
theorem TX.keep (h : TX w base t l x s L v) (g : Grow w w') : TX w' base t l x s L v := ⟨h.lg.keep g, h.blk.keep g, h.row.keep g, h.xt, h.tl, h.vx, h.held⟩
theorem RX.keep (h : RX w base t l x s L v) (g : Grow w w') : RX w' base t l x s L v := ⟨h.lg.keep g, h.blk.keep g, h.row.keep g, h.xt, h.tl, h.vx, h.held⟩
theorem TX.turn (h : TX w base t l x s L v) (k : Turn F w w') (hF : ∀ k, F k → ¬ TF t x v k ∧ k ≠ l) : TX w' base t l x s L v :=
  ⟨h.lg.turn k (fun i q z => (hF i q).1 (.inl z)) (fun q => (hF l q).2 rfl), h.blk.turn k (fun q => (hF t q).1 (.inr (.inl rfl))), h.row.turn k (fun g hg q => (hF g q).1 (.inr (.inr hg))), h.xt, h.tl, h.vx, h.held⟩
theorem RX.turn (h : RX w base t l x s L v) (k : Turn F w w') (hF : ∀ k, F k → ¬ TF t x v k ∧ k ≠ l) : RX w' base t l x s L v :=
  ⟨h.lg.turn k (fun i q z => (hF i q).1 (.inl z)) (fun q => (hF l q).2 rfl), h.blk.turn k (fun q => (hF t q).1 (.inr (.inl rfl))), h.row.turn k (fun g hg q => (hF g q).1 (.inr (.inr hg))), h.xt, h.tl, h.vx, h.held⟩
/-- The memory and the log go on; the transaction stays. -/
theorem TX.mem (h : TX w base t l x s L v) (h1 : LG w' l x s') (k : Turn x.F w w') : TX w' base t l x s' L v :=
  ⟨h1, h.blk.turn k h.xt, h.row.turn k (fun g hg => (h.vx g hg).1), h.xt, h.tl, h.vx, h.held⟩
theorem RX.mem (h : RX w base t l x s L v) (h1 : RL w' l x s') (k : Turn x.F w w') : RX w' base t l x s' L v :=
  ⟨h1, h.blk.turn k h.xt, h.row.turn k (fun g hg => (h.vx g hg).1), h.xt, h.tl, h.vx, h.held⟩
theorem TX.tfl (h : TX w base t l x s L v) : ∀ k, TF t x v k → k < w.heap.size := by
  rintro k (q | rfl | q)
  · exact h.lg.1.lt k q
  · exact h.blk.1.1
  · exact (World.ownsRow.lt h.row k q).2
theorem RX.tfl (h : RX w base t l x s L v) : ∀ k, TF t x v k → k < w.heap.size := by
  rintro k (q | rfl | q)
  · exact h.lg.1.lt k q
  · exact h.blk.1.1
  · exact (World.ownsRow.lt h.row k q).2
theorem TX.ok (h : TX w base t l x s L v) : s.ok := ⟨h.lg.1.lenS, h.lg.1.lenT, h.lg.1.lenA⟩
/-- A new row in the transaction's last cell. -/
theorem TX.put {v' : Value} {L' : List PT} (h : TX w base t l x s L v) (r : OP w' base v' L') (k : Turn (fun i => v.ownBlock = some i) w w') (hv : v'.ownBlock = v.ownBlock ∨ ∀ g, v'.ownBlock = some g → w.heap.size ≤ g) (hh : Held L') :
    TX (w'.setCell ⟨t, 2, none⟩ v') base t l x s L' v' := by
  have h1 : Row w' t [.pointer (some ⟨x.p, 0, none⟩), .pointer (some ⟨l, 0, none⟩), v] := h.blk.turn k fun q => (h.vx t q).2.1 rfl
  have hv2 : ∀ g, v'.ownBlock = some g → ¬ x.F g ∧ g ≠ t ∧ g ≠ l := by
    intro g hg
    rcases hv with e | e
    · exact h.vx g (e ▸ hg)
    · have := e g hg
      have := h.lg.1.lt g
      have := h.blk.1.1
      have := h.lg.2.1.1
      refine ⟨fun q => ?_, ?_, ?_⟩
      · have := h.lg.1.lt g q; omega
      · omega
      · omega
  have tu := Turn.setCell (F := fun i => i = t) w' (p := ⟨t, 2, none⟩) rfl v'
  exact ⟨(h.lg.turn k (fun g hg => (h.vx g hg).1) (fun q => (h.vx l q).2.2 rfl)).turn tu (fun g hg => hg ▸ h.xt) (fun q => h.tl q.symm), h1.set (j := 2) (v := v') (by simp), r.turn tu (fun g hg q => (hv2 g hg).2.1 q), h.xt, h.tl, hv2, hh⟩
theorem RX.put {v' : Value} {L' : List PT} (h : RX w base t l x s L v) (r : OP w' base v' L') (k : Turn (fun i => v.ownBlock = some i) w w') (hv : v'.ownBlock = v.ownBlock ∨ ∀ g, v'.ownBlock = some g → w.heap.size ≤ g) (hh : Held L') :
    RX (w'.setCell ⟨t, 2, none⟩ v') base t l x s L' v' := by
  have h1 : Row w' t [.pointer (some ⟨x.p, 0, none⟩), .pointer (some ⟨l, 0, none⟩), v] := h.blk.turn k fun q => (h.vx t q).2.1 rfl
  have hv2 : ∀ g, v'.ownBlock = some g → ¬ x.F g ∧ g ≠ t ∧ g ≠ l := by
    intro g hg
    rcases hv with e | e
    · exact h.vx g (e ▸ hg)
    · have := e g hg
      have := h.blk.1.1
      have := h.lg.2.1.1
      refine ⟨fun q => ?_, ?_, ?_⟩
      · have := h.lg.1.lt g q; omega
      · omega
      · omega
  have tu := Turn.setCell (F := fun i => i = t) w' (p := ⟨t, 2, none⟩) rfl v'
  exact ⟨(h.lg.turn k (fun g hg => (h.vx g hg).1) (fun q => (h.vx l q).2.2 rfl)).turn tu (fun g hg => hg ▸ h.xt) (fun q => h.tl q.symm), h1.set (j := 2) (v := v') (by simp), r.turn tu (fun g hg q => (hv2 g hg).2.1 q), h.xt, h.tl, hv2, hh⟩
end
/-- 'append(s, p)' at a step of a region that draws. -/
theorem step_appP {w : World} {ops : Array Oper} {o : Oper} {a : Act} {K : Act → World → Prop} {Q : Exit → Act → World → Prop} {E : Prop} (hgd : o.guard = none) (s x : Operand)
    (ho : o.op = .call { callee := .builtin .append, args := #[s, x], argTypes := #[34, 34] })
    (base : Nat) (v : Value) (L : List PT) (hs : a.eval s = v) (r : PT) (B : Nat) (A : Option Addr) (hx : a.eval x = .slice A 1 1) (hr : Rd w B A 2 1 (pcs [r])) (hown : OP w base v L)
    (h63 : L.length + 1 ≤ 1000000) (hbase : base ≤ w.heap.size)
    (h : ∀ v' w', OP w' base v' (L ++ [r]) → w.grownBy w' v.ownBlock → (v'.ownBlock = v.ownBlock ∨ v'.ownBlock = some w.heap.size) → K (a.put o.dst v') w') : if Region.wanted o (yielded ops a.tmps) = true then Oper.wp Try.prog o a w K Q else E := by
  have hw : Region.wanted o (yielded ops a.tmps) = true := by simp [Region.wanted, hgd]
  rw [if_pos hw]
  obtain ⟨i0, hi, hz, h1, h2⟩ := info_parts pt_info
  obtain ⟨v', w', hrun, h3, h4, h5⟩ := app_any (P := Try.prog) w base 34 o.type 37 i0 _ 2 24 Try.underlying34 hi hz h1 h2 rfl (by omega) v L.length (pcs L) hown B A 1 1 (pcs [r]) hr (pcs_one [r]) (by unfold maxLen; omega) (by omega) hbase
  unfold Oper.wp execOp
  simp only [ho, resolve, invoke, builtin, Sem.run_bind, Sem.run_pure, Result.andThen_ok, List.map_toArray, List.map_cons, List.map_nil, hs, hx, hrun]
  exact h v' w' (by unfold OP; rw [List.length_append, pcs_append]; exact h3) h4 h5
theorem Rd.new1 {w w' : World} (r : PT) (g : Grow (w.alloc (.cells #[.int .i64 r.pos, .string r.dat] 37)) w') : Rd w' (w.heap.size + 1) (some ⟨w.heap.size, 0, none⟩) 2 1 (pcs [r]) := by
  have h := Rd.litP w 37 (pcs [r]) 2 1 rfl
  have g' : Below (w.heap.size + 1) (w.alloc (.cells (pcs [r]).toArray 37)) w' := g.mono (by simp)
  exact Rd.below h g'
end Go.Proofs.Ytlinlmimakealaa

namespace Go.Proofs.Ytlinlmimakealaa
open Go.RowKit
theorem Grow.turnAnd {a b c : World} {F : Nat → Prop} (g : Grow a b) (t : Turn F b c) : Turn F a c := (Turn.grow g F).and t

set_option maxHeartbeats 4000000 in
set_option maxRecDepth 4000 in
theorem tx_store {w : World} {base t l : Nat} {x : MB} {s : MS} {L : List PT} {v : Value} (h : TX w base t l x s L v) (hb : base ≤ w.heap.size) {B : Option Addr} {m c : Nat} {bs : List UInt8} (hs : Sl w B m bs) (hB : 0 < m → ∀ p, B = some p → v.ownBlock ≠ some p.block ∧ p.block ≠ t) (a : Int) :
    Calls Try.prog 9 #[.pointer (some ⟨t, 0, none⟩), .int .i64 a, .slice B m c] w fun e w' => e = .returned (.int .i64 (errV (stO L a m))) ∧ ∃ v', TX w' base t l x s (stL L a bs) v' ∧ Turn (fun i => i = t ∨ v.ownBlock = some i) w w' ∧ (v'.ownBlock = v.ownBlock ∨ ∃ g, v'.ownBlock = some g ∧ w.heap.size ≤ g) := by
  obtain ⟨Av, cv, rfl, hcv⟩ := h.row.form
  have HELD := Lib.hid (h.held)
  have hmb := hs.1
  have H := Lib.hid h
  have HS0 := Lib.hid hs
  have HBB := Lib.hid hB
  have c2 := h.blk.1.2 2 _ rfl
  have c0 := h.blk.1.2 0 _ rfl
  have hfew := h.held.few
  have hm2 := hs.2.1
  clear h hs hB
  go_enter Try.func9, Try.ntmps9
  go_wp2_with fail
  refine (pm_loadU H.out.lg.1 a (m : Nat) (by omega) (by have := HS0.out.2.1; omega)).mono ?_
  rintro e w1 ⟨A1, c1, rfl, -, g1⟩
  have H1 := Lib.hid (H.out.keep g1)
  have HS := Lib.hid (HS0.out.keep g1)
  have G1 := Lib.hid g1
  have HB1 := Lib.hid (show base ≤ w1.heap.size by have := g1.size; omega)
  have d2 := g1.cell c2
  have d0 := (H1.out.blk.2 2 (by simp))
  clear g1 c2
  rw [show (8 * 128 : Nat) = 1024 from rfl]
  generalize loadM 128 a (m : Int) = mm
  cases hin : inW 1024 a (m : Int) with
  | false =>
    have HNO := Lib.hid (show L = stL L a bs by unfold stL stO; rw [hmb, hin]; simp)
    have HNE := Lib.hid (show stO L a m = false by unfold stO; rw [hin]; simp)
    clear hin
    go_wp2_with fail
    go_ret
    refine ⟨?_, _, HNO.out ▸ H1.out, G1.out.turnAnd (Turn.refl _ _), .inl rfl⟩
    rw [HNE.out]; rfl
  | true =>
    by_cases h256 : 256 < m
    · have z1 : decide (256 < m) = true := decide_eq_true h256
      have z2 : decide ((256 : Int) < (m : Int)) = true := decide_eq_true (by omega)
      have HNO := Lib.hid (show L = stL L a bs by unfold stL stO; rw [hmb, hin]; simp [Nat.not_le.2 h256])
      have HNE := Lib.hid (show stO L a m = false by unfold stO; rw [hin]; simp [Nat.not_le.2 h256])
      clear hin
      go_wp2_with fail
      go_ret
      refine ⟨?_, _, HNO.out ▸ H1.out, G1.out.turnAnd (Turn.refl _ _), .inl rfl⟩
      rw [HNE.out]; rfl
    · have z1 : decide (256 < m) = false := decide_eq_false h256
      have z2 : decide ((256 : Int) < (m : Int)) = false := decide_eq_false (by omega)
      by_cases h64 : L.length < 64
      · have z3 : decide (64 ≤ L.length) = false := decide_eq_false (by omega)
        have z4 : decide ((64 : Int) ≤ (L.length : Int)) = false := decide_eq_false (by omega)
        have z5 : ¬ (L.length : Int) = 64 := by omega
        have HSO := Lib.hid (show stO L a m = true by unfold stO; rw [hin]; simp [Nat.not_lt.1 h256, h64])
        have HSL := Lib.hid (show stL L a bs = L ++ [⟨a, ⟨bs.toArray⟩⟩] by unfold stL; rw [hmb, HSO.out]; rfl)
        have HELD := Lib.hid (show Held (L ++ [⟨a, ⟨bs.toArray⟩⟩]) by rw [← HSL.out]; exact H1.out.held.store a bs)
        have dA := ((Grow.refl w1).alloc (.cells #[.int .i64 a, .string ⟨bs.toArray⟩] 37)).cell d2
        have conv_c := fun {w' : World} (hS : Sl w' B m bs) (c : Nat) => conv_s (c := c) hS
        clear hin
        go_wp2_with fail
        have HSS := HS.out
        refine wp_region_held_drew (S := fun w' => Sl w' B m bs) (by kernel_rfl) ?_ (fun hHeld => ?_)
        · exact HSS
        refine wpAnyH_take (i := 0) (oi := _) (v := ?_) rfl (by kernel_rfl) (by kernel_rfl) (by kernel_rfl) (fun _ _ _ h => h) (Or.inl ⟨by rfl, ?_⟩) (by assumption) ?_
        rotate_left
        · (intro w hSw; (try dsimp only at hSw); go_simp; (try with_reducible rfl))
        simp only [Act.put, List.setIfInBounds_toArray]
        refine wpAnyH_take (i := 1) (oi := _) (v := ?_) rfl (by kernel_rfl) (by kernel_rfl) (by kernel_rfl) (fun _ _ _ h => h) (Or.inl ⟨by rfl, ?_⟩) (by assumption) ?_
        rotate_left
        · (intro w hSw; (try dsimp only at hSw); go_simp; (try with_reducible rfl))
        simp only [Act.put]
        refine wpAnyH_take (i := 2) (oi := _) (v := ?_) rfl (by kernel_rfl) (by kernel_rfl) (by kernel_rfl) (fun _ _ _ h => h) (Or.inl ⟨by rfl, ?_⟩) (by assumption) ?_
        rotate_left
        · (intro w hSw; (try dsimp only at hSw); go_simp; (try with_reducible rfl))
        simp only [Act.put]
        refine wpAnyH_take (i := 3) (oi := _) (v := ?_) rfl (by kernel_rfl) (by kernel_rfl) (by kernel_rfl) (fun _ _ _ h => h) (Or.inl ⟨by rfl, ?_⟩) (by assumption) ?_
        rotate_left
        · (intro w hSw; (try dsimp only at hSw); go_simp; (try with_reducible rfl))
        simp only [Act.put]
        refine wpAnyH_take (i := 5) (oi := _) (v := ?_) rfl (by kernel_rfl) (by kernel_rfl) (by kernel_rfl) (fun _ _ _ h => h) (Or.inl ⟨by rfl, ?_⟩) (by assumption) ?_
        rotate_left
        · (intro w hSw; (try dsimp only at hSw); go_simp; (try with_reducible rfl))
        simp only [Act.put]
        refine wpAnyH_take (i := 6) (oi := _) (v := ?_) rfl (by kernel_rfl) (by kernel_rfl) (by kernel_rfl) (fun _ _ _ h => h) (Or.inl ⟨by rfl, ?_⟩) (by assumption) ?_
        rotate_left
        · (intro w hSw; (try dsimp only at hSw); go_simp; (try with_reducible rfl))
        simp only [Act.put]
        refine wpAnyH_take (i := 7) (oi := _) (v := .string ⟨bs.toArray⟩) rfl (by kernel_rfl) (by kernel_rfl) (by kernel_rfl) (fun _ _ _ h => h) (Or.inl ⟨by rfl, ?_⟩) (by assumption) ?_
        · (intro w hSw; (try dsimp only at hSw); have kc := conv_c hSw c; go_simp)
        simp only [Act.put]
        refine wpAnyH_take (i := 8) (oi := _) (v := ?_) rfl (by kernel_rfl) (by kernel_rfl) (by kernel_rfl) (fun _ _ _ h => h) (Or.inl ⟨by rfl, ?_⟩) (by assumption) ?_
        rotate_left
        · (intro w hSw; (try dsimp only at hSw); go_simp; (try with_reducible rfl))
        simp only [Act.put]
        refine wpAnyH_ready (rs := [4, 9]) (by kernel_rfl) (by simp) ?_
        refine AllReadyH.cons (o := _) rfl (fun K hK => ?_) (AllReadyH.cons (o := _) rfl (fun K hK => ?_) AllReadyH.nil)
        · go_simp
          refine hK.out _ _ (by assumption) (fun hHeld4 => ?_)
          clear hK K
          refine wpAnyH_ready (rs := [9]) (by kernel_rfl) (by simp) ?_
          refine AllReadyH.cons (o := _) rfl (fun K hK => ?_) AllReadyH.nil
          go_simp
          refine hK.out _ _ (Sl.keep (by assumption) ((Grow.refl _).alloc _)) (fun hHeld9 => ?_)
          clear hK K
          refine wpAnyH_ready (rs := [10]) (by kernel_rfl) (by simp) ?_
          refine AllReadyH.cons (o := _) rfl (fun K hK => ?_) AllReadyH.nil
          refine step_appP rfl (.tmp 39) (.tmp 44) rfl base _ L rfl ⟨a, ⟨bs.toArray⟩⟩ _ (some ⟨w1.heap.size, 0, none⟩) (by first | rfl | simp) (Rd.new1 (w := w1) _ (by (repeat (first | exact Grow.refl _ | refine Grow.drew ?_ | refine Grow.drewN ?_ _ | refine Grow.alloc ?_ _)))) (H1.out.row.keep (by (repeat (first | exact Grow.refl _ | refine Grow.drew ?_ | refine Grow.drewN ?_ _ | refine Grow.alloc ?_ _)))) (by have := H1.out.held.few; omega) (by have := HB1.out; first | omega | (simp; omega)) ?_
          intro v5 w5 q1 q2 q3
          obtain ⟨A5, k5, e5v, -⟩ := q1.form
          rw [show (L ++ [(⟨a, ⟨bs.toArray⟩⟩ : PT)]).length = L.length + 1 by simp] at e5v
          subst e5v
          have g5 : Turn (fun i => (Value.slice Av L.length cv).ownBlock = some i) w1 w5 := (Turn.grow (show Grow w1 _ by (repeat (first | exact Grow.refl _ | refine Grow.drew ?_ | refine Grow.drewN ?_ _ | refine Grow.alloc ?_ _))) _).and (Turn.grown q2 (fun _ h => h))
          have H5 := Lib.hid (H1.out.put q1 g5 (q3.imp id fun e g hg => by rw [e] at hg; injection hg with hg; have hz : w1.heap.size ≤ g := (by have hg' : w1.heap.size + 1 = g := (by first | exact hg | simpa using hg); omega); exact hz) HELD.out)
          have f5 := (H1.out.blk.turn g5 (fun q => (H1.out.vx t q).2.1 rfl)).2 2 (by simp)
          have d5 := (H1.out.blk.turn g5 (fun q => (H1.out.vx t q).2.1 rfl)).1.2 2 _ rfl
          have HS5 := HS.out.turn' g5 (fun h0 p hp q => (HBB.out h0 p hp).1 q)
          refine hK.out _ _ HS5 (fun hHeld5 => ?_)
          clear hK K
          refine wpAnyH_take (i := 11) (oi := _) (v := ?_) rfl (by kernel_rfl) (by kernel_rfl) (by kernel_rfl) (fun _ _ _ h => h) (Or.inl ⟨by rfl, ?_⟩) (by assumption) ?_
          rotate_left
          · (intro w hSw; (try dsimp only at hSw); go_simp; (try with_reducible rfl))
          simp only [Act.put]
          refine wpAnyH_take (i := 12) (oi := _) (v := ?_) rfl (by kernel_rfl) (by kernel_rfl) (by kernel_rfl) (fun _ _ _ h => h) (Or.inl ⟨by rfl, ?_⟩) (by assumption) ?_
          rotate_left
          · (intro w hSw; (try dsimp only at hSw); go_simp; (try with_reducible rfl))
          simp only [Act.put]
          refine wpAnyH_ready (rs := [13]) (by kernel_rfl) (by simp) ?_
          refine AllReadyH.cons (o := _) rfl (fun K hK => ?_) AllReadyH.nil
          go_simp
          refine hK.out _ _ (HS5.turn' (Turn.setCell (F := fun i => i = t) w5 (p := ⟨t, 2, none⟩) rfl _) (fun h0 p hp q => (HBB.out h0 p hp).2 q)) (fun hHeld6 => ?_)
          clear hK K
          refine wpAnyH_done (by kernel_rfl) ?_ _
          have T5 := Lib.hid (Turn.set (Turn.mono g5 (G := fun i => i = t ∨ (Value.slice Av L.length cv).ownBlock = some i) (fun i h => .inr h)) ⟨t, 2, none⟩ (.inl rfl) (.slice A5 (L.length + 1) k5))
          clear q2 f5 d5 HS5 q1
          go_wp2_with fail
          go_ret
          exact ⟨by rw [HSO.out]; rfl, _, by rw [HSL.out]; exact H5.out, G1.out.turnAnd T5.out, q3.imp id fun e => ⟨_, e, by have := G1.out.size; first | omega | (simp; done) | (simp; omega)⟩⟩
        · go_simp
          refine hK.out _ _ (Sl.keep (by assumption) ((Grow.refl _).alloc _)) (fun hHeld9 => ?_)
          clear hK K
          refine wpAnyH_ready (rs := [4]) (by kernel_rfl) (by simp) ?_
          refine AllReadyH.cons (o := _) rfl (fun K hK => ?_) AllReadyH.nil
          go_simp
          refine hK.out _ _ (by assumption) (fun hHeld4 => ?_)
          clear hK K
          refine wpAnyH_ready (rs := [10]) (by kernel_rfl) (by simp) ?_
          refine AllReadyH.cons (o := _) rfl (fun K hK => ?_) AllReadyH.nil
          refine step_appP rfl (.tmp 39) (.tmp 44) rfl base _ L rfl ⟨a, ⟨bs.toArray⟩⟩ _ (some ⟨w1.heap.size, 0, none⟩) (by first | rfl | simp) (Rd.new1 (w := w1) _ (by (repeat (first | exact Grow.refl _ | refine Grow.drew ?_ | refine Grow.drewN ?_ _ | refine Grow.alloc ?_ _)))) (H1.out.row.keep (by (repeat (first | exact Grow.refl _ | refine Grow.drew ?_ | refine Grow.drewN ?_ _ | refine Grow.alloc ?_ _)))) (by have := H1.out.held.few; omega) (by have := HB1.out; first | omega | (simp; omega)) ?_
          intro v5 w5 q1 q2 q3
          obtain ⟨A5, k5, e5v, -⟩ := q1.form
          rw [show (L ++ [(⟨a, ⟨bs.toArray⟩⟩ : PT)]).length = L.length + 1 by simp] at e5v
          subst e5v
          have g5 : Turn (fun i => (Value.slice Av L.length cv).ownBlock = some i) w1 w5 := (Turn.grow (show Grow w1 _ by (repeat (first | exact Grow.refl _ | refine Grow.drew ?_ | refine Grow.drewN ?_ _ | refine Grow.alloc ?_ _))) _).and (Turn.grown q2 (fun _ h => h))
          have H5 := Lib.hid (H1.out.put q1 g5 (q3.imp id fun e g hg => by rw [e] at hg; injection hg with hg; have hz : w1.heap.size ≤ g := (by have hg' : w1.heap.size + 1 = g := (by first | exact hg | simpa using hg); omega); exact hz) HELD.out)
          have f5 := (H1.out.blk.turn g5 (fun q => (H1.out.vx t q).2.1 rfl)).2 2 (by simp)
          have d5 := (H1.out.blk.turn g5 (fun q => (H1.out.vx t q).2.1 rfl)).1.2 2 _ rfl
          have HS5 := HS.out.turn' g5 (fun h0 p hp q => (HBB.out h0 p hp).1 q)
          refine hK.out _ _ HS5 (fun hHeld5 => ?_)
          clear hK K
          refine wpAnyH_take (i := 11) (oi := _) (v := ?_) rfl (by kernel_rfl) (by kernel_rfl) (by kernel_rfl) (fun _ _ _ h => h) (Or.inl ⟨by rfl, ?_⟩) (by assumption) ?_
          rotate_left
          · (intro w hSw; (try dsimp only at hSw); go_simp; (try with_reducible rfl))
          simp only [Act.put]
          refine wpAnyH_take (i := 12) (oi := _) (v := ?_) rfl (by kernel_rfl) (by kernel_rfl) (by kernel_rfl) (fun _ _ _ h => h) (Or.inl ⟨by rfl, ?_⟩) (by assumption) ?_
          rotate_left
          · (intro w hSw; (try dsimp only at hSw); go_simp; (try with_reducible rfl))
          simp only [Act.put]
          refine wpAnyH_ready (rs := [13]) (by kernel_rfl) (by simp) ?_
          refine AllReadyH.cons (o := _) rfl (fun K hK => ?_) AllReadyH.nil
          go_simp
          refine hK.out _ _ (HS5.turn' (Turn.setCell (F := fun i => i = t) w5 (p := ⟨t, 2, none⟩) rfl _) (fun h0 p hp q => (HBB.out h0 p hp).2 q)) (fun hHeld6 => ?_)
          clear hK K
          refine wpAnyH_done (by kernel_rfl) ?_ _
          have T5 := Lib.hid (Turn.set (Turn.mono g5 (G := fun i => i = t ∨ (Value.slice Av L.length cv).ownBlock = some i) (fun i h => .inr h)) ⟨t, 2, none⟩ (.inl rfl) (.slice A5 (L.length + 1) k5))
          clear q2 f5 d5 HS5 q1
          go_wp2_with fail
          go_ret
          exact ⟨by rw [HSO.out]; rfl, _, by rw [HSL.out]; exact H5.out, G1.out.turnAnd T5.out, q3.imp id fun e => ⟨_, e, by have := G1.out.size; first | omega | (simp; done) | (simp; omega)⟩⟩
      · have z3 : decide (64 ≤ L.length) = true := decide_eq_true (by omega)
        have z4 : decide ((64 : Int) ≤ (L.length : Int)) = true := decide_eq_true (by omega)
        have z5 : (L.length : Int) = 64 := by omega
        have HNO := Lib.hid (show L = stL L a bs by unfold stL stO; rw [hmb, hin]; simp [h64])
        have HNE := Lib.hid (show stO L a m = false by unfold stO; rw [hin]; simp [h64])
        clear hin
        go_wp2_with fail
        go_ret
        refine ⟨?_, _, HNO.out ▸ H1.out, G1.out.turnAnd (Turn.refl _ _), .inl rfl⟩
        rw [HNE.out]; rfl
end Go.Proofs.Ytlinlmimakealaa

namespace Go.Proofs.Ytlinlmimakealaa
open Go.RowKit

def lodL (s : MS) (L : List PT) (a n : Int) : List UInt8 := ovL (loadL 128 s.S a n) a.toNat L
def LoadInv (w1 wr : World) (B : Nat) (A : Option Addr) (m c k : Nat) (bs : List UInt8) (L : List PT) (t : Value) : Prop := ∃ i : Nat, t = .int .i64 (i : Int) ∧ i ≤ L.length ∧ Own wr B A m c (ovL bs k (L.take i)) ∧ Turn (BlkA A) w1 wr
theorem Own.blkA {w : World} {base n c : Nat} {A : Option Addr} {bs : List UInt8} (h : Own w base A n c bs) : ∀ k, BlkA A k → base ≤ k ∧ k < w.heap.size := by
  rintro k ⟨p, rfl, rfl⟩
  exact World.ownsRow.lt h.2.2 p.block rfl
theorem lod_in {s : MS} (hs : s.S.length = 1024) {a n : Int} (hin : inW 1024 a n = true) : (loadL 128 s.S a n).length = n.toNat := by
  obtain ⟨h1, h2, h3⟩ := inW_iff.1 hin
  unfold loadL
  rw [show (8 * 128 : Nat) = 1024 from rfl, hin, if_pos rfl, List.length_take, List.length_drop, hs]
  omega
theorem lod_no {s : MS} {a n : Int} (hin : inW 1024 a n = false) (L : List PT) : lodL s L a n = [] ∧ loadL 128 s.S a n = [] := by
  have h : loadL 128 s.S a n = [] := by unfold loadL; rw [show (8 * 128 : Nat) = 1024 from rfl, hin]; rfl
  refine ⟨?_, h⟩
  unfold lodL
  rw [h]
  exact List.eq_nil_of_length_eq_zero (ovL_length _ _ _)

set_option maxHeartbeats 2000000 in
theorem tx_load {w : World} {base t l : Nat} {x : MB} {s : MS} {L : List PT} {v : Value} (h : TX w base t l x s L v) (a n : Int) (hn : -9223372036854775808 ≤ n) (hn' : n ≤ 9223372036854775807) :
    Calls Try.prog 26 #[.pointer (some ⟨t, 0, none⟩), .int .i64 a, .int .i64 n] w fun e w' => ∃ A c, e = .returned (.tuple #[.slice A (loadM 128 a n) c, .int .i64 (errV (inW 1024 a n))]) ∧ Own w' w.heap.size A (loadM 128 a n) c (lodL s L a n) ∧ Grow w w' := by
  obtain ⟨Av, cv, rfl, hcv⟩ := h.row.form
  have H := Lib.hid h
  have c0 := h.blk.1.2 0 _ rfl
  have c2 := h.blk.1.2 2 _ rfl
  have hfew := h.held.few
  cases hin : inW 1024 a n with
  | false =>
    have HIN := Lib.hid hin
    have hm0 : loadM 128 a n = 0 := by unfold loadM; rw [show (8 * 128 : Nat) = 1024 from rfl, hin]; rfl
    have HL := Lib.hid (lod_no hin L (s := s)).1
    have HM := Lib.hid hm0
    clear h hin hm0
    go_enter Try.func26, Try.ntmps26
    go_wp2_with fail
    refine (pm_loadU H.out.lg.1 a n hn hn').mono ?_
    rintro e w1 ⟨A1, c1, rfl, -, g1⟩
    rw [show (8 * 128 : Nat) = 1024 from rfl, HIN.out, HM.out]
    have G1 := Lib.hid g1
    clear g1
    go_wp2_with fail
    go_ret2
    exact ⟨none, 0, by rw [HM.out]; rfl, by rw [HM.out, HL.out]; exact Own.nil _ _, G1.out⟩
  | true =>
    obtain ⟨h1, h2, h3⟩ := inW_iff.1 hin
    obtain ⟨k, rfl⟩ : ∃ k : Nat, a = (k : Int) := ⟨a.toNat, by omega⟩
    have HIN := Lib.hid hin
    have hm0 : loadM 128 k n = n.toNat := by unfold loadM; rw [show (8 * 128 : Nat) = 1024 from rfl, hin]; rfl
    obtain ⟨m, hm⟩ : ∃ m, m = n.toNat := ⟨_, rfl⟩
    have hkm : k + m ≤ 1024 := by omega
    rw [← hm] at hm0
    have HM := Lib.hid hm0
    obtain ⟨bs, hbs⟩ : ∃ bs, bs = loadL 128 s.S k n := ⟨_, rfl⟩
    have HLL := Lib.hid (show lodL s L k n = ovL bs k L by rw [hbs]; rfl)
    have HBL := Lib.hid (show bs.length = m by rw [hbs, hm]; exact lod_in h.ok.S hin)
    have HBS := Lib.hid hbs
    clear h hin hm0 h1 h2 h3 hm hbs
    go_enter Try.func26, Try.ntmps26
    go_wp2_with fail
    refine (pm_loadU H.out.lg.1 k n hn hn').mono ?_
    rintro e w1 ⟨A1, c1, rfl, o1, g1⟩
    rw [show (8 * 128 : Nat) = 1024 from rfl, HIN.out, HM.out]
    rw [HM.out, ← HBS.out] at o1
    have O1 := Lib.hid o1
    have G1 := Lib.hid g1
    have H1 := Lib.hid (H.out.keep g1)
    have HAB := Lib.hid o1.blkA
    obtain ⟨Ax, cx, ex, -, rx⟩ := H1.out.row.rp (by omega)
    injection ex with ex1 ex2 ex3
    subst ex1
    have RX1 := Lib.hid rx
    have HNA := Lib.hid (show 0 < L.length → ∀ p, Av = some p → ¬ BlkA A1 p.block from fun _ p hp q => by
      have q1 := (HAB.out _ q).1
      have q2 := (World.ownsRow.lt H.out.row p.block (by rw [hp]; rfl)).2
      omega)
    obtain ⟨N, hN⟩ : ∃ N, N = L.length := ⟨_, rfl⟩
    rw [← hN] at RX1 HNA hfew c2
    have d2 := g1.cell c2
    have HN := Lib.hid hN
    clear o1 g1 rx ex2 ex3 c0 c2 hcv hN
    go_wp2_with fail
    go_loopw [30] (fun t wr => LoadInv w1 wr w.heap.size A1 m c1 k bs L t) (fun t _ => N - (intOf t).toNat)
    case atStart => exact ⟨0, rfl, Nat.zero_le _, O1.out, Turn.refl _ _⟩
    case round =>
      obtain ⟨i, rfl, hi, ho, ht⟩ := hrel
      have HO := Lib.hid ho
      have HT := Lib.hid ht
      have hi' : i ≤ N := by have := HN.out; omega
      clear ho ht hi
      by_cases hlt : i < N
      · have R2 := RX1.out.turn HT.out HNA.out
        obtain ⟨b, o, r, hrk, rfl, hb, e0, e1⟩ := R2.at_ hlt
        obtain ⟨f1, f2, f3⟩ := H.out.held.fit r (List.mem_of_getElem? hrk)
        have HST := Lib.hid (ovL_step (bs := bs) (a := k) hrk)
        obtain ⟨pos, dat⟩ := r
        simp only at f1 f2 f3 e0 e1
        obtain ⟨q, rfl⟩ : ∃ q : Nat, pos = (q : Int) := ⟨pos.toNat, by omega⟩
        have hbz : b ≠ wr.heap.size := by omega
        have hq : q ≤ 1024 := by omega
        have hsz : dat.size ≤ 1024 := by omega
        clear hrk R2 f1 f2 f3
        go_wp2_with fail
        refine (over_c (HO.out.alloc _) k q dat (by omega) (by omega) hq hsz).mono ?_
        rintro e w3 ⟨rfl, o3, t3⟩
        have X : LoadInv w1 w3 w.heap.size A1 m c1 k bs L (.int .i64 ((i : Int) + 1)) := ⟨i + 1, by simp, by have := HN.out; omega, by rw [HST.out]; exact o3, HT.out.and ((Turn.grow ((Grow.refl _).alloc _) _).and t3)⟩
        have HX := Lib.hid X
        clear X o3 t3 e0 e1 hb hbz
        go_wp2_with fail
        go_roundw
        have e5 : wrap64 ((i : Int) + 1) = (i : Int) + 1 := IntWalk.wrap64_in _ (by omega)
        case rel => (try rw [e5]); first | exact HX.out | ((repeat apply Exists.intro); exact HX.out) | ((repeat apply Exists.intro); refine ⟨HX.out, ?_⟩; rfl)
        case measure => (have e5 : wrap64 ((i : Int) + 1) = (i : Int) + 1 := IntWalk.wrap64_in _ (by omega)); first | exact measF hlt | exact measFW hlt e5
      · have HE := Lib.hid (show ovL bs k (L.take i) = ovL bs k L by rw [List.take_of_length_le (by have := HN.out; omega)])
        go_wp2_with fail
        go_ret2
        refine ⟨A1, c1, by rw [HM.out]; rfl, ?_, G1.out.low (HT.out.low (fun i q => (HAB.out i q).1) G1.out.size)⟩
        rw [HLL.out, HM.out, ← HE.out]
        exact HO.out
end Go.Proofs.Ytlinlmimakealaa
