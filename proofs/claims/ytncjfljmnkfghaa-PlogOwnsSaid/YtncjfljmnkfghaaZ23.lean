/- The program's memory and log of a pair, verb by verb. No statement of the seat is proved here. -/
import Derived.Test.YtncjfljmnkfghaaZ20
import Derived.Test.YtncjfljmnkfghaaZ14
import Derived.Test.YtncjfljmnkfghaaZ16
namespace Go.Proofs.Ytncjfljmnkfghaa
open Go.RowKit

/-- The program's side of a pair at pb: its memory (px) and its log l in the state s; what was there at W is as it was. -/
structure LP (W w : World) (pb l px py d : Nat) (x : MB) (s : MS) : Prop where
  lg : LG w l x s
  p : x.p = px
  blk : Blk w pb [.pointer (some ⟨px, 0, none⟩), .pointer (some ⟨l, 0, none⟩), .pointer (some ⟨py, 0, none⟩), .pointer (some ⟨d, 0, none⟩)]
  xp : ¬ x.F pb
  xb : ∀ k, x.F k → W.heap.size ≤ k
  g : Grow W w
section
variable {W w w' : World} {pb l px py d : Nat} {x : MB} {s s' : MS}
theorem LP.keep (h : LP W w pb l px py d x s) (k : Grow w w') : LP W w' pb l px py d x s := ⟨h.lg.keep k, h.p, h.blk.keep k, h.xp, h.xb, h.g.trans k⟩
theorem LP.step (h : LP W w pb l px py d x s) (h1 : LG w' l x s') (t : Turn x.F w w') : LP W w' pb l px py d x s' := ⟨h1, h.p, h.blk.turn t h.xp, h.xp, h.xb, h.g.low (t.low h.xb h.g.size)⟩
theorem LP.ok (h : LP W w pb l px py d x s) : s.ok := ⟨h.lg.1.lenS, h.lg.1.lenT, h.lg.1.lenA⟩
theorem LP.lt (h : LP W w pb l px py d x s) : ∀ k, x.F k → k < w.heap.size := h.lg.1.lt
theorem PX.lp {y : MB} (h : PX w W.heap.size pb l d x y s) (g : Grow W w) : LP W w pb l x.p y.p d x s := ⟨h.lg, rfl, h.blk, h.xp, h.xb, g⟩

theorem lp_flush (h : LP W w pb l px py d x s) (a n : Int) (h1 : -9223372036854775808 ≤ n) (h2 : n ≤ 9223372036854775807) :
    Calls Try.prog 35 #[.pointer (some ⟨px, 0, none⟩), .int .i64 a, .int .i64 n] w fun e w' => (∃ er, e = .returned (.int .i64 er)) ∧ LP W w' pb l px py d x (s.flush a n) ∧ Turn x.F w w' := by
  obtain rfl := h.p
  refine (pm_flushU h.lg.1 a n h1 h2).mono ?_
  rintro e w' ⟨rfl, h5, t5⟩
  exact ⟨⟨_, rfl⟩, h.step ⟨h5, h.lg.2.1.turn t5 h.lg.2.2, h.lg.2.2⟩ t5, t5⟩
theorem lp_fence (h : LP W w pb l px py d x s) :
    Calls Try.prog 36 #[.pointer (some ⟨px, 0, none⟩)] w fun e w' => e = .returned (.tuple #[]) ∧ LP W w' pb l px py d x s.fence ∧ Turn x.F w w' := by
  obtain rfl := h.p
  refine (pm_fence h.lg.1).mono ?_
  rintro e w' ⟨rfl, h5, t5⟩
  exact ⟨rfl, h.step ⟨h5, h.lg.2.1.turn t5 h.lg.2.2, h.lg.2.2⟩ t5, t5⟩
theorem lp_store (h : LP W w pb l px py d x s) {B : Option Addr} {m c : Nat} {bs : List UInt8} (hs : Sl w B m bs) (hB : 0 < m → ∀ p, B = some p → ¬ x.F p.block) (a : Int) :
    Calls Try.prog 29 #[.pointer (some ⟨px, 0, none⟩), .int .i64 a, .slice B m c] w fun e w' => (∃ er, e = .returned (.int .i64 er)) ∧ LP W w' pb l px py d x (s.store a bs) ∧ Turn x.F w w' := by
  obtain rfl := h.p
  refine (pm_storeU h.lg.1 hs hB a).mono ?_
  rintro e w' ⟨rfl, h5, t5⟩
  have hl := hs.1
  refine ⟨⟨_, rfl⟩, h.step ⟨?_, h.lg.2.1.turn t5 h.lg.2.2, h.lg.2.2⟩ t5, t5⟩
  simp only [MS.store]
  rw [hl]
  exact h5
theorem lp_crash (h : LP W w pb l px py d x s) {B : Option Addr} {m c : Nat} {pk : List Int} (hs : RI w B m pk) (hB : 0 < m → ∀ p, B = some p → ¬ x.F p.block) :
    Calls Try.prog 30 #[.pointer (some ⟨px, 0, none⟩), .slice B m c] w fun e w' => e = .returned (.tuple #[]) ∧ ∃ x', LP W w' pb l px py d x' (s.crash pk) ∧ Turn x.F w w' ∧ ∀ k, x'.F k → x.F k ∨ w.heap.size ≤ k := by
  obtain rfl := h.p
  refine (pm_crash h.lg.1 hs hB).mono ?_
  rintro e w' ⟨rfl, g', hg, h5, t5⟩
  have hF : ∀ k, (⟨x.p, g', x.gt, x.b⟩ : MB).F k → x.F k ∨ k = g' := by
    rintro k (q | q | q | q)
    · exact .inl (.inl q)
    · exact .inr q
    · exact .inl (.inr (.inr (.inl q)))
    · exact .inl (.inr (.inr (.inr q)))
  have hl := h.lg.2.1.1
  have hp := h.blk.1
  have hz := h.g.size
  refine ⟨rfl, ⟨x.p, g', x.gt, x.b⟩, ⟨⟨h5, h.lg.2.1.turn t5 h.lg.2.2, fun q => ?_⟩, rfl, h.blk.turn t5 h.xp, fun q => ?_, fun k q => ?_, h.g.low (t5.low h.xb h.g.size)⟩, t5, fun k q => (hF k q).imp id fun q2 => by omega⟩
  · rcases hF _ q with q3 | q3
    · exact h.lg.2.2 q3
    · omega
  · rcases hF _ q with q3 | q3
    · exact h.xp q3
    · omega
  · rcases hF _ q with q3 | q3
    · exact h.xb k q3
    · omega
theorem lp_append (h : LP W w pb l px py d x s) {A : Option Addr} {n c : Nat} {L : List PT} (hr : RP w A n L) (hw : ∀ p ∈ L, p.wide) :
    Calls Try.prog 25 #[.pointer (some ⟨l, 0, none⟩), .slice A n c] w fun e w' => e = .returned (.int .i64 (apE s.S L)) ∧ LP W w' pb l px py d x (s.append L) ∧ Turn x.F w w' := by
  refine (pl_append h.lg hr hw).mono ?_
  rintro e w' ⟨rfl, h5, t5⟩
  exact ⟨rfl, h.step h5 t5, t5⟩
theorem lp_redo (h : LP W w pb l px py d x s) :
    Calls Try.prog 31 #[.pointer (some ⟨l, 0, none⟩)] w fun e w' => e = .returned (.int .i64 ((lgL s.S).length : Nat)) ∧ LP W w' pb l px py d x s.redo ∧ Turn x.F w w' := by
  refine (pl_redo h.lg).mono ?_
  rintro e w' ⟨rfl, h5, t5⟩
  exact ⟨rfl, h.step h5 t5, t5⟩
/-- The records, as a slice that is read; its rows lie at or beyond 'base'. -/
theorem lp_records (h : LP W w pb l px py d x s) :
    Calls Try.prog 27 #[.pointer (some ⟨l, 0, none⟩)] w fun e w' => ∃ A c R, e = .returned (.slice A (lgL s.S).length c) ∧ (lgL s.S).length ≤ c ∧ OW w' w.heap.size (.slice A (lgL s.S).length c) R ∧ R.map RW.L = lgL s.S ∧ Grow w w' := by
  have HF := recs_few s h.ok.S
  refine (pl_records h.lg).mono ?_
  rintro e w' ⟨v, R, rfl, o, hR, g⟩
  have hl : R.length = (lgL s.S).length := by rw [← hR, List.length_map]
  obtain ⟨A, c, rfl, hc, -⟩ := o.rv (by omega)
  rw [hl] at o hc ⊢
  exact ⟨A, c, R, rfl, hc, o, hR, g⟩
end
theorem recs_small {s : MS} {R : List RW} (h : R.map RW.L = lgL s.S) : ∀ r ∈ R, r.L.length ≤ 60000 := fun r hr => by
  have := (rcL_few _ (lgB s.S) (Nat.le_refl _) r.L (by have : r.L ∈ R.map RW.L := List.mem_map_of_mem hr; rw [h] at this; exact this)).1
  omega
/-- After a flush of all and a fence all that is seen lasts. -/
theorem flush_all {s : MS} (h : s.ok) : (s.flush 0 1024).fence.still := by
  refine MS.fence_still (h.ok_flush _ _) ?_
  rw [MS.flush_in (by decide)]
  intro k hk hd
  rw [flushA_get _ _ _ _ _ (by rw [h.A]; exact hk), hd]
  have : lineB (Int.toNat 0) (Int.toNat 1024) k = true := by
    simp only [lineB, decide_eq_true_eq, Int.toNat_zero, show Int.toNat 1024 = 1024 from rfl]
    omega
  rw [this]; simp
theorem still_crash {s : MS} (hs : s.still) (pk : List Int) : (s.crash pk).S = s.S := by
  show mixL s.S s.T _ = s.S
  rw [← show s.S = s.T from hs]
  refine ext_getD (by rw [mixL_length]) fun j hj => ?_
  rw [mixL_length] at hj
  rw [mixL_get _ _ _ _ hj]; simp
end Go.Proofs.Ytncjfljmnkfghaa
