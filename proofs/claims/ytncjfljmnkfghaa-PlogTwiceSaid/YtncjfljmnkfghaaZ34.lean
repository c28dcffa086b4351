/- Redo, done again over bytes of which some came already, comes to the same: in plain words. No statement of the seat is proved here. -/
import Derived.Test.YtncjfljmnkfghaaZ25
namespace Go.Proofs.Ytncjfljmnkfghaa

/-- A patch within the memory and ahead of the log. -/
def PT.lowB (p : PT) : Bool := decide (0 ≤ p.pos) && (decide (p.pos + (p.dat.size : Int) ≤ 512) && decide (p.pos ≤ 512))
theorem PT.lowB_iff {p : PT} : p.lowB = true ↔ 0 ≤ p.pos ∧ p.pos + (p.dat.size : Int) ≤ 512 ∧ p.pos ≤ 512 := by simp [PT.lowB]
def lowL (L : List PT) : List PT := L.filter PT.lowB
theorem lowL_low {L : List PT} : ∀ p ∈ lowL L, p.lowB = true := fun _ hp => (List.mem_filter.1 hp).2
theorem lowL_sub {L : List PT} : ∀ p ∈ lowL L, p ∈ L := fun _ hp => (List.mem_filter.1 hp).1
theorem lowL_length (L : List PT) : (lowL L).length ≤ L.length := List.length_filter_le _ _
theorem lowL_yes {L : List PT} {k : Nat} {r : PT} (h : L[k]? = some r) (hr : r.lowB = true) : lowL (L.take (k + 1)) = lowL (L.take k) ++ [r] := by
  rw [lowL, lowL, List.take_add_one, h, List.filter_append]; simp [hr]
theorem lowL_no {L : List PT} {k : Nat} {r : PT} (h : L[k]? = some r) (hr : r.lowB = false) : lowL (L.take (k + 1)) = lowL (L.take k) := by
  rw [lowL, lowL, List.take_add_one, h, List.filter_append]; simp [hr]
def covP (p : PT) (j : Nat) : Prop := p.pos.toNat ≤ j ∧ j < p.pos.toNat + p.dat.size
theorem low_in {p : PT} (h : p.lowB = true) : inW 1024 p.pos p.dat.size = true := by
  obtain ⟨h1, h2, h3⟩ := PT.lowB_iff.1 h
  exact inW_iff.2 ⟨h1, by omega, by omega⟩
theorem low_cov {p : PT} (h : p.lowB = true) {j : Nat} (hj : covP p j) : j < 512 := by
  obtain ⟨h1, h2, h3⟩ := PT.lowB_iff.1 h
  obtain ⟨h4, h5⟩ := hj
  omega
theorem patS_len (S : List UInt8) (p : PT) : (patS S p).length = S.length := by
  unfold patS
  split
  · rw [putL_length]
  · rfl
theorem fold_len (L : List PT) : ∀ S, (L.foldl patS S).length = S.length := by
  induction L with
  | nil => intro S; rfl
  | cons p L ih => intro S; rw [List.foldl_cons, ih, patS_len]
theorem patS_get {p : PT} (h : p.lowB = true) {S : List UInt8} (hS : S.length = 1024) (j : Nat) : (patS S p).getD j 0 = if p.pos.toNat ≤ j ∧ j < p.pos.toNat + p.dat.size then p.txt.getD (j - p.pos.toNat) 0 else S.getD j 0 := by
  obtain ⟨h1, h2, h3⟩ := PT.lowB_iff.1 h
  unfold patS
  rw [low_in h, if_pos rfl, putL_get _ _ _ _ (by rw [PT.txt_length, hS]; omega), PT.txt_length]
theorem fold_no {j : Nat} (L : List PT) : (∀ p ∈ L, p.lowB = true) → (∀ p ∈ L, ¬ covP p j) → ∀ S, S.length = 1024 → (L.foldl patS S).getD j 0 = S.getD j 0 := by
  induction L with
  | nil => intro _ _ S _; rfl
  | cons p L ih =>
    intro h hc S hS
    rw [List.foldl_cons, ih (fun q hq => h q (List.mem_cons_of_mem _ hq)) (fun q hq => hc q (List.mem_cons_of_mem _ hq)) _ (by rw [patS_len, hS]), patS_get (h p List.mem_cons_self) hS]
    exact if_neg (hc p List.mem_cons_self)
theorem fold_yes {j : Nat} (L : List PT) : (∀ p ∈ L, p.lowB = true) → (∃ p ∈ L, covP p j) → ∃ v, ∀ S, S.length = 1024 → (L.foldl patS S).getD j 0 = v := by
  induction L with
  | nil => intro _ ⟨p, hp, _⟩; simp at hp
  | cons p L ih =>
    intro h hc
    by_cases q : ∃ p ∈ L, covP p j
    · obtain ⟨v, hv⟩ := ih (fun q hq => h q (List.mem_cons_of_mem _ hq)) q
      exact ⟨v, fun S hS => by rw [List.foldl_cons]; exact hv _ (by rw [patS_len, hS])⟩
    · have hp : covP p j := by
        obtain ⟨r, hr, hrj⟩ := hc
        rcases List.mem_cons.1 hr with rfl | hr
        · exact hrj
        · exact absurd ⟨r, hr, hrj⟩ q
      refine ⟨p.txt.getD (j - p.pos.toNat) 0, fun S hS => ?_⟩
      rw [List.foldl_cons, fold_no L (fun q hq => h q (List.mem_cons_of_mem _ hq)) (fun r hr k => q ⟨r, hr, k⟩) _ (by rw [patS_len, hS]), patS_get (h p List.mem_cons_self) hS]
      exact if_pos hp

/-- Patches that are stored, and neither flushed nor fenced. -/
def MS.stores (s : MS) (L : List PT) : MS := L.foldl (fun s p => s.store p.pos p.txt) s
theorem stores_step {s : MS} {L : List PT} {k : Nat} {r : PT} (h : L[k]? = some r) : s.stores (L.take (k + 1)) = (s.stores (L.take k)).store r.pos r.txt := by
  rw [MS.stores, MS.stores, List.take_add_one, h, List.foldl_append]; rfl
theorem stores_is (L : List PT) : ∀ s : MS, s.ok → (∀ p ∈ L, p.lowB = true) → (s.stores L).ok ∧ (s.stores L).S = L.foldl patS s.S ∧ (s.stores L).T = s.T := by
  induction L with
  | nil => intro s h _; exact ⟨h, rfl, rfl⟩
  | cons p L ih =>
    intro s h hl
    have hp := low_in (hl p List.mem_cons_self)
    obtain ⟨i1, i2, i3⟩ := ih (s.store p.pos p.txt) (h.ok_store _ _) (fun q hq => hl q (List.mem_cons_of_mem _ hq))
    have e : s.stores (p :: L) = (s.store p.pos p.txt).stores L := rfl
    rw [e]
    refine ⟨i1, ?_, ?_⟩
    · rw [i2, List.foldl_cons, MS.store_in (by rw [PT.txt_length]; exact hp), patS, hp, if_pos rfl]
    · rw [i3, MS.store_in (by rw [PT.txt_length]; exact hp)]

/-- The log lies in the last half. -/
theorem log_high {S S' : List UInt8} (h : S.length = 1024) (h' : S'.length = 1024) (hS : ∀ j, 512 ≤ j → j < 1024 → S'.getD j 0 = S.getD j 0) : lgE S' = lgE S ∧ lgL S' = lgL S := by
  have e : S'.drop 512 = S.drop 512 := by
    refine ext_getD (by rw [List.length_drop, List.length_drop]; omega) fun j hj => ?_
    rw [List.length_drop] at hj
    have := hS (512 + j) (by omega) (by omega)
    simp only [List.getD_eq_getElem?_getD, List.getElem?_drop] at this ⊢
    exact this
  have hE : lgE S' = lgE S := by
    rw [lgE, lgE, ← lg_head h', ← lg_head h, e]
  refine ⟨hE, ?_⟩
  have e2 : S'.drop 520 = S.drop 520 := by
    have := congrArg (List.drop 8) e
    rw [List.drop_drop, List.drop_drop] at this
    exact this
  rw [lgL, lgL, lgB, lgB, hE, e2]

/-- Redo of both: the one as it was, the other with some patches stored, and a crash behind them. -/
theorem twice_same {s : MS} (h : s.ok) (hs : s.still) {all : List PT} (ha : (lgL s.S).flatten = all) (hl : ∀ p ∈ all, p.lowB = true) (k : Nat) (pk : List Int) :
    lgL ((s.stores (all.take k)).crash pk).S = lgL s.S ∧ s.redo.T.take 512 = ((s.stores (all.take k)).crash pk).redo.T.take 512 ∧ lgE s.redo.S = 0 ∧ lgE ((s.stores (all.take k)).crash pk).redo.S = 0 := by
  have hlk : ∀ p ∈ all.take k, p.lowB = true := fun p hp => hl p (List.mem_of_mem_take hp)
  obtain ⟨i1, i2, i3⟩ := stores_is (all.take k) s h hlk
  obtain ⟨t, ht⟩ : ∃ t, t = s.stores (all.take k) := ⟨_, rfl⟩
  rw [← ht] at i1 i2 i3 ⊢
  obtain ⟨u, hu⟩ : ∃ u, u = t.crash pk := ⟨_, rfl⟩
  have ok2 : u.ok := by rw [hu]; exact i1.ok_crash pk
  have st2 : u.still := by rw [hu]; rfl
  have hget : ∀ j, j < 1024 → u.S.getD j 0 = t.S.getD j 0 ∨ u.S.getD j 0 = s.S.getD j 0 := by
    intro j hj
    have e : u.S = mixL t.S t.T (crashB (dirtyL t.S t.T 128) pk (dirtyL t.S t.T 128).length) := by rw [hu]; rfl
    rw [e, mixL_get _ _ _ _ (by rw [i1.T]; exact hj)]
    split
    · exact .inl rfl
    · right; rw [i3, ← show s.S = s.T from hs]
  rw [← hu]
  have hlog : lgE u.S = lgE s.S ∧ lgL u.S = lgL s.S := log_high h.S ok2.S fun j h1 h2 => by
    rcases hget j h2 with q | q
    · rw [q, i2, fold_no _ hlk (fun p hp c => by have := low_cov (hlk p hp) c; omega) _ h.S]
    · exact q
  obtain ⟨r1, r2, r3⟩ := redo_is h (MS.still_cov hs)
  obtain ⟨q1, q2, q3⟩ := redo_is ok2 (MS.still_cov st2)
  rw [hlog.2, ha] at q3
  rw [ha] at r3
  have l1 : (all.foldl patS s.S).length = 1024 := by rw [fold_len, h.S]
  have l2 : (all.foldl patS u.S).length = 1024 := by rw [fold_len, ok2.S]
  refine ⟨hlog.2, ?_, by rw [r3]; exact lgE_wiped l1, by rw [q3]; exact lgE_wiped l2⟩
  rw [← show s.redo.S = s.redo.T from r2, ← show u.redo.S = u.redo.T from q2, r3, q3]
  refine ext_getD (by rw [List.length_take, List.length_take, putL_length, putL_length]; omega) fun j hj => ?_
  rw [List.length_take, putL_length] at hj
  have hg : ∀ S : List UInt8, S.length = 1024 → ((putL S 512 (List.replicate 8 0)).take 512).getD j 0 = S.getD j 0 := by
    intro S hS
    have := putL_get (List.replicate 8 0) S 512 j (by rw [hS]; decide)
    rw [if_neg (by omega)] at this
    rw [← this]
    simp only [List.getD_eq_getElem?_getD, List.getElem?_take]
    rw [if_pos (by omega)]
  rw [hg _ l1, hg _ l2]
  by_cases hc : ∃ p ∈ all, covP p j
  · obtain ⟨v, hv⟩ := fold_yes all hl hc
    rw [hv _ h.S, hv _ ok2.S]
  · rw [fold_no all hl (fun p hp k => hc ⟨p, hp, k⟩) _ h.S, fold_no all hl (fun p hp k => hc ⟨p, hp, k⟩) _ ok2.S]
    rcases hget j (by omega) with q | q
    · rw [q, i2, fold_no _ hlk (fun p hp k => hc ⟨p, List.mem_of_mem_take hp, k⟩) _ h.S]
    · exact q.symm
end Go.Proofs.Ytncjfljmnkfghaa
