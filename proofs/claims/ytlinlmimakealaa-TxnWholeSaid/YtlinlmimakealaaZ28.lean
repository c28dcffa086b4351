/- The deeds of an argument, and the reach of their bytes. What a crash within Append leaves, in plain words. Redo, done again over bytes of which some came already, comes to the same: in plain words. A crash within Commit, and Redo: in plain words. No statement of the seat is proved here. -/
import Derived.Test.YtlinlmimakealaaZ21
import Derived.SizedLaws
import Derived.Test.YtlinlmimakealaaZ08
import Derived.Test.YtlinlmimakealaaZ20
namespace Go.Proofs.Ytlinlmimakealaa
open Go.RowKit
open Go.ChangeShapes Go.WideShapes Go.ChangeAt

theorem weightsAll_mem {H : Type} {P : Program} {e : TypeId} : ∀ {ds : List (DataW H)} {d : DataW H}, d ∈ ds → ∀ n ∈ d.weights P e, n ∈ DataW.weightsAll P e ds
  | d0 :: ds, d, hd, n, hn => by
    simp only [DataW.weightsAll, List.mem_append]
    rcases List.mem_cons.1 hd with rfl | h
    · exact Or.inl hn
    · exact Or.inr (weightsAll_mem h n hn)
theorem lits_length (k : IntKind) (zs : List Int) {H : Type} : (lits (H := H) k zs).length = zs.length := by simp [lits]
set_option maxRecDepth 8000 in
theorem reach_bytes {H : Type} {enc : TypeId × Value → H} {W : World} {base fuel : Nat} {a : Option Addr} {l c : Nat} {x : DataW H × List MemPlace} {spare : Nat → Bool} {held : Bool}
    (hf : DataW.trod enc Try.prog W base spare held fuel 22 [.slice a l c] = some x) {R : Nat} (h : ∀ n ∈ x.1.weights Try.prog 22, n ≤ R) (hR : 0 ≤ R) : l ≤ R := by
  have hb : Try.prog.bytesOf 5 = 1 := by kernel_rfl
  rcases open_ints Try.underlying22 Try.underlying5 (by kernel_rfl) hf with ⟨hcs, _⟩ | ⟨ad, len, cap, zs, hcs, _, hl, hm, hz, rfl, -, -⟩
  · simp at hcs
    omega
  · simp at hcs
    obtain ⟨-, rfl, -⟩ := hcs
    have hl2 : l ≤ zs.length := by rw [hz]; split <;> omega
    have := h ((zs.take l).length + (zs.drop l).length) (by
      simp only [DataW.weights, Try.underlying22, List.mem_cons]
      left
      rw [lits_length, lits_length, hb, Nat.mul_one])
    rw [List.length_take, List.length_drop] at this
    omega
set_option maxRecDepth 8000 in
theorem trod_deedZ {H : Type} {enc : TypeId × Value → H} {W : World} {base fuel : Nat} {cs : List Value} {x : DataW H × List MemPlace} {spare : Nat → Bool} {held : Bool}
    (hf : DataW.trod enc Try.prog W base spare held fuel 54 cs = some x) (hs : ∀ b, spare b = true) {R : Nat} (h : ∀ n ∈ x.1.weights Try.prog 54, n ≤ R) : ∃ r : Dd, cs = r.cells ∧ r.ok W ∧ r.bs.length ≤ R := by
  obtain ⟨r, rfl, hok⟩ := trod_deed hf hs
  refine ⟨r, rfl, hok, ?_⟩
  obtain ⟨xs, n, _, hx, hl, hlen, hg⟩ := DataW.trod_struct Try.underlying54 hf
  have e4 : Try.prog.cellsOf 22 = 1 := by kernel_rfl
  match xs, hlen with
  | [y0, y1, y2, y3, y4], _ =>
    have g3 : DataW.trod enc Try.prog W base spare held n 22 [.slice r.B r.bs.length r.c] = some y3 := by simpa [e4, Dd.cells] using hg 3 _ rfl
    refine reach_bytes g3 (fun k hk => h k ?_) (Nat.zero_le _)
    rw [hx]
    simp only [DataW.weights, Try.underlying54]
    exact DataW.weights_mem_each (j := 3) rfl rfl k hk
set_option maxRecDepth 8000 in
theorem open_deedsZ {H : Type} {enc : TypeId × Value → H} {W : World} {b0 base : Nat} {v : Value} {d : DataW H} {p : List MemPlace} {spare : Nat → Bool} {held : Bool} {T : TypeId} {R : Nat}
    (hT : Try.prog.underlying T = some (.slice 54)) (hv : Value.okWide Try.prog W .any b0 T v) (h : DataW.Trod enc Try.prog W base spare held T v d p) (hs : ∀ b, spare b = true) (hw : ∀ n ∈ d.weights Try.prog T, n ≤ R) :
    ∃ (a : Option Addr) (L : List Dd) (c : Nat), v = .slice a L.length c ∧ RD W a L.length L ∧ L.length ≤ c ∧ ∀ e ∈ L, e.bs.length ≤ R := by
  have hC : Try.prog.cellsOf 54 = 5 := by kernel_rfl
  obtain ⟨a, len, cap, rfl⟩ := okWide_slice hT hv
  obtain ⟨fuel, hf⟩ := h
  rcases Deep.open_slice hT hf with ⟨hcs, _⟩ | ⟨x, l, c, m, n, D, Pl, hcs, _, hl, hm, hmm, hxx, hx⟩
  · simp [Value.cells] at hcs
    obtain ⟨rfl, rfl, rfl⟩ := hcs
    exact ⟨none, [], 0, rfl, ⟨rfl, fun e he => by simp at he, fun h0 => by simp at h0⟩, Nat.le_refl _, fun e he => by simp at he⟩
  · simp [Value.cells] at hcs
    obtain ⟨rfl, rfl, rfl⟩ := hcs
    have hmc : m = cap := by rw [hmm, hs]; rfl
    injection hxx with hd hp
    subst hd
    have hel : ∀ i, i < len → ∃ r : Dd, (r.ok W ∧ r.bs.length ≤ R) ∧ ∀ j, j < 5 → W.cell? ((x.add (i * 5)).add j) = (r.cells)[j]? := by
      intro i hi
      obtain ⟨cs', h1, ht⟩ := hx i (by omega)
      rw [hC] at h1
      obtain ⟨r, rfl, hok, hR⟩ := trod_deedZ ht hs (R := R) (fun k hk => hw k (by
        simp only [DataW.weights, hT, List.mem_cons, List.mem_append]
        exact Or.inr (Or.inl (weightsAll_mem (List.mem_map.2 ⟨i, by simpa using hi, rfl⟩) k hk))))
      exact ⟨r, ⟨hok, hR⟩, (World.cells?_some h1).2.2⟩
    obtain ⟨L, hL, hp⟩ := choose_list hel
    refine ⟨some x, L, cap, by rw [hL], ⟨rfl, fun e he => ?_, fun h0 => ?_⟩, by omega, fun e he => ?_⟩
    · obtain ⟨i, hi, rfl⟩ := List.getElem_of_mem he
      exact (hp i hi).1.1
    · have hc0 := (hp 0 h0).2 0 (by omega)
      obtain ⟨b, off, spot⟩ := x
      have hspot : spot = none := by simpa [Addr.add] using World.cell?_spot hc0
      subst hspot
      have hlt := World.block_lt_of_cell? W _ hc0
      refine ⟨b, off, rfl, by simpa [Addr.add] using hlt, fun i hi j hj => ?_⟩
      have := (hp i hi).2 j hj
      rwa [Addr.add_lit, Addr.add_lit] at this
    · obtain ⟨i, hi, rfl⟩ := List.getElem_of_mem he
      exact (hp i hi).1.2
end Go.Proofs.Ytlinlmimakealaa

namespace Go.Proofs.Ytlinlmimakealaa

/-- All that is seen lasts, and the log's end is where its records end. -/
def MS.whole (s : MS) : Prop := s.still ∧ lgE s.S = lgU s.S
theorem app_end {S : List UInt8} {L : List PT} (h : S.length = 1024) (hU : lgU S + (encP L).length ≤ 504) :
    lgE (putL (putL S (520 + lgU S) (encP L)) 512 (leB (lgU S + (encP L).length) 8)) = lgU S + (encP L).length := by
  obtain ⟨U, hUU⟩ : ∃ U, U = lgU S := ⟨_, rfl⟩
  obtain ⟨b, hb⟩ : ∃ b, b = encP L := ⟨_, rfl⟩
  rw [← hUU, ← hb] at hU ⊢
  have l1 : (putL S (520 + U) b).length = 1024 := by rw [putL_length]; exact h
  have e2 := putL_eq (leB (U + b.length) 8) (putL S (520 + U) b) 512 (by rw [leB_length]; omega)
  rw [leB_length] at e2
  obtain ⟨S2, hS2⟩ : ∃ S2, S2 = putL (putL S (520 + U) b) 512 (leB (U + b.length) 8) := ⟨_, rfl⟩
  rw [← hS2] at e2 ⊢
  have g := get_mid (bs := S2) (p := (putL S (520 + U) b).take 512) (q := (putL S (520 + U) b).drop 520) (n := ((U + b.length : Nat) : Int)) (a := 512) (wd := 8) (by rw [e2]; rfl) (by rw [List.length_take]; omega) (by simp [fitsB]; omega) (by omega)
  have g1 : getN S2 512 8 = ((U + b.length : Nat) : Int) := g.1
  rw [lgE, g1, if_neg (by omega)]; omega
theorem append_whole {s : MS} (h : s.ok) (hw : s.whole) (L : List PT) : (s.append L).ok ∧ (s.append L).whole := by
  by_cases hE : apE s.S L = 0
  · obtain ⟨h1, h2⟩ := apE_iff.1 hE
    obtain ⟨r1, r2, -, r4⟩ := append_is h (MS.still_cov hw.1) hE
    refine ⟨r1, r2, ?_⟩
    rw [r4, app_end h.S h2, (app_log h.S h1 h2).2]
  · rw [MS.append, if_neg hE]; exact ⟨h, hw⟩

/-- What agrees up to the records' end has the same records. -/
theorem log_same {S S' : List UInt8} (h : S.length = 1024) (h' : S'.length = 1024) (hE : lgE S = lgU S) (hS : ∀ j, j < 520 + lgU S → S'.getD j 0 = S.getD j 0) : lgL S' = lgL S := by
  have hU := lgU_le (S := S)
  have e8 : (S'.drop 512).take 8 = (S.drop 512).take 8 := by
    refine ext_getD (by rw [List.length_take, List.length_take, List.length_drop, List.length_drop]; omega) fun j hj => ?_
    rw [List.length_take, List.length_drop] at hj
    have := hS (512 + j) (by omega)
    simp only [List.getD_eq_getElem?_getD, List.getElem?_take, List.getElem?_drop] at this ⊢
    rw [if_pos (by omega), if_pos (by omega)]
    exact this
  have hg : getN S' 512 8 = getN S 512 8 := by
    rw [← lg_head h', ← lg_head h, e8]
  have hE' : lgE S' = lgE S := by rw [lgE, lgE, hg]
  have hB : lgB S' = lgB S := by
    rw [lgB, lgB, hE', hE]
    refine ext_getD (by rw [List.length_take, List.length_take, List.length_drop, List.length_drop]; omega) fun j hj => ?_
    rw [List.length_take, List.length_drop] at hj
    have := hS (520 + j) (by omega)
    simp only [List.getD_eq_getElem?_getD, List.getElem?_take, List.getElem?_drop] at this ⊢
    rw [if_pos (by omega), if_pos (by omega)]
    exact this
  rw [lgL, lgL, hB]
theorem mixed_same {s : MS} (h : s.ok) (pk : List Int) {j : Nat} (hj : j < 1024) (hS : s.S.getD j 0 = s.T.getD j 0) : (s.crash pk).S.getD j 0 = s.S.getD j 0 := by
  show (mixL s.S s.T _).getD j 0 = _
  rw [mixL_get _ _ _ _ (by rw [h.T]; exact hj)]
  split
  · rfl
  · exact hS.symm

section
variable {s : MS} {L : List PT}
/-- The states within Append, step by step. -/
def tornB (s : MS) (L : List PT) (k : Nat) : MS :=
  let s1 := if 0 < k then s.store ((520 + lgU s.S : Nat) : Int) (encP L) else s
  let s2 := if 1 < k then s1.flush ((520 + lgU s.S : Nat) : Int) (encP L).length else s1
  let s3 := if 2 < k then s2.fence else s2
  let s4 := if 3 < k then s3.store 512 (leB (lgU s.S + (encP L).length) 8) else s3
  let s5 := if 4 < k then s4.flush 512 8 else s4
  if 5 < k then s5.fence else s5
set_option maxRecDepth 8000 in
theorem torn_few (h : s.ok) (hw : s.whole) (hU : lgU s.S + (encP L).length ≤ 504) (pk : List Int) :
    ∀ k, k ≤ 3 → lgL ((tornB s L k).crash pk).S = lgL s.S := by
  have hin : inW 1024 ((520 + lgU s.S : Nat) : Int) (encP L).length = true := by simp [inW]; omega
  have hput : ∀ j, j < 520 + lgU s.S → (putL s.S (520 + lgU s.S) (encP L)).getD j 0 = s.S.getD j 0 := fun j hj => by
    rw [putL_get _ _ _ _ (by rw [h.S]; omega), if_neg (by omega)]
  have hU5 := lgU_le (S := s.S)
  have key : ∀ s' : MS, s'.ok → s'.S = putL s.S (520 + lgU s.S) (encP L) → (∀ j, j < 520 + lgU s.S → s'.S.getD j 0 = s'.T.getD j 0) → lgL (s'.crash pk).S = lgL s.S := by
    intro s' h1 h2 h3
    refine log_same h.S (h1.ok_crash pk).S hw.2 fun j hj => ?_
    rw [mixed_same h1 pk (by omega) (h3 j hj), h2, hput j hj]
  have hS1 : (s.store ((520 + lgU s.S : Nat) : Int) (encP L)).S = putL s.S (520 + lgU s.S) (encP L) := by rw [MS.store_in hin]; rfl
  have hT1 : (s.store ((520 + lgU s.S : Nat) : Int) (encP L)).T = s.T := by rw [MS.store_in hin]
  have hagree : ∀ j, j < 520 + lgU s.S → (putL s.S (520 + lgU s.S) (encP L)).getD j 0 = s.T.getD j 0 := fun j hj => by rw [hput j hj, hw.1]
  intro k hk
  match k, hk with
  | 0, _ =>
    refine log_same h.S (h.ok_crash pk).S hw.2 fun j hj => ?_
    exact mixed_same h pk (by omega) (by rw [hw.1])
  | 1, _ =>
    exact key _ (h.ok_store _ _) hS1 fun j hj => by show (s.store ((520 + lgU s.S : Nat) : Int) (encP L)).S.getD j 0 = (s.store ((520 + lgU s.S : Nat) : Int) (encP L)).T.getD j 0; rw [hS1, hT1]; exact hagree j hj
  | 2, _ =>
    exact key _ ((h.ok_store _ _).ok_flush _ _) hS1 fun j hj => by show (s.store ((520 + lgU s.S : Nat) : Int) (encP L)).S.getD j 0 = (s.store ((520 + lgU s.S : Nat) : Int) (encP L)).T.getD j 0; rw [hS1, hT1]; exact hagree j hj
  | 3, _ =>
    have hst : (s.keep ((520 + lgU s.S : Nat) : Int) (encP L)).still := MS.keep_still h (MS.still_cov hw.1) _ _
    exact key (s.keep ((520 + lgU s.S : Nat) : Int) (encP L)) (h.ok_keep _ _) (MS.keep_S hin) fun j _ => congrArg (fun z => z.getD j 0) (show (s.keep ((520 + lgU s.S : Nat) : Int) (encP L)).S = (s.keep ((520 + lgU s.S : Nat) : Int) (encP L)).T from hst)
set_option maxRecDepth 8000 in
theorem torn_mid (h : s.ok) (hw : s.whole) (hm : mayP L = true) (hU : lgU s.S + (encP L).length ≤ 504) (pk : List Int) :
    ∀ k, k = 4 ∨ k = 5 → lgL ((tornB s L k).crash pk).S = lgL s.S ∨ lgL ((tornB s L k).crash pk).S = lgL s.S ++ [L] := by
  have hin : inW 1024 ((520 + lgU s.S : Nat) : Int) (encP L).length = true := by simp [inW]; omega
  have hin2 : inW 1024 512 ((leB (lgU s.S + (encP L).length) 8).length : Nat) = true := by rw [leB_length]; simp [inW]
  obtain ⟨s3, hs3⟩ : ∃ s3, s3 = s.keep ((520 + lgU s.S : Nat) : Int) (encP L) := ⟨_, rfl⟩
  have ok3 : s3.ok := by rw [hs3]; exact h.ok_keep _ _
  have st3 : s3.S = s3.T := by rw [hs3]; exact MS.keep_still h (MS.still_cov hw.1) _ _
  have S3 : s3.S = putL s.S (520 + lgU s.S) (encP L) := by rw [hs3]; exact MS.keep_S hin
  have l3 : lgL s3.S = lgL s.S := by
    refine log_same h.S ok3.S hw.2 fun j hj => ?_
    rw [S3, putL_get _ _ _ _ (by rw [h.S]; omega), if_neg (by omega)]
  have S4 : (s3.store 512 (leB (lgU s.S + (encP L).length) 8)).S = putL s3.S 512 (leB (lgU s.S + (encP L).length) 8) := by rw [MS.store_in hin2]; rfl
  have T4 : (s3.store 512 (leB (lgU s.S + (encP L).length) 8)).T = s3.S := by rw [MS.store_in hin2, st3]
  have l4 : lgL (putL s3.S 512 (leB (lgU s.S + (encP L).length) 8)) = lgL s.S ++ [L] := by rw [S3]; exact (app_log h.S hm hU).1
  have key : ∀ s' : MS, s'.ok → s'.S = putL s3.S 512 (leB (lgU s.S + (encP L).length) 8) → s'.T = s3.S → lgL (s'.crash pk).S = lgL s.S ∨ lgL (s'.crash pk).S = lgL s.S ++ [L] := by
    intro s' h1 h2 h3
    obtain ⟨B, hB⟩ : ∃ B, B = crashB (dirtyL s'.S s'.T 128) pk (dirtyL s'.S s'.T 128).length := ⟨_, rfl⟩
    have hc : (s'.crash pk).S = mixL s'.S s'.T B := by rw [hB]; rfl
    have hg : ∀ j, j < 1024 → (mixL s'.S s'.T B).getD j 0 = if B (j / 8) then (putL s3.S 512 (leB (lgU s.S + (encP L).length) 8)).getD j 0 else s3.S.getD j 0 := fun j hj => by rw [mixL_get _ _ _ _ (by rw [h1.T]; exact hj), h2, h3]
    have hp : ∀ j, ¬ (512 ≤ j ∧ j < 520) → (putL s3.S 512 (leB (lgU s.S + (encP L).length) 8)).getD j 0 = s3.S.getD j 0 := fun j hj => by
      rw [putL_get _ _ _ _ (by rw [leB_length, ok3.S]; decide), leB_length, if_neg hj]
    cases hb : B 64 with
    | true =>
      right
      rw [hc, ← l4]
      refine congrArg lgL (ext_getD (by rw [mixL_length, putL_length, h1.T, ok3.S]) fun j hj => ?_)
      rw [mixL_length, h1.T] at hj
      rw [hg j hj]
      by_cases h8 : 512 ≤ j ∧ j < 520
      · rw [show j / 8 = 64 by omega, hb]; rfl
      · rw [hp j h8]; simp
    | false =>
      left
      rw [hc, ← l3]
      refine congrArg lgL (ext_getD (by rw [mixL_length, h1.T, ok3.S]) fun j hj => ?_)
      rw [mixL_length, h1.T] at hj
      rw [hg j hj]
      by_cases h8 : 512 ≤ j ∧ j < 520
      · rw [show j / 8 = 64 by omega, hb]; rfl
      · rw [hp j h8]; simp
  intro k hk
  rcases hk with rfl | rfl
  · have e : tornB s L 4 = s3.store 512 (leB (lgU s.S + (encP L).length) 8) := by rw [hs3]; rfl
    rw [e]
    exact key _ (ok3.ok_store _ _) S4 T4
  · have e : tornB s L 5 = (s3.store 512 (leB (lgU s.S + (encP L).length) 8)).flush 512 8 := by rw [hs3]; rfl
    rw [e]
    exact key _ ((ok3.ok_store _ _).ok_flush _ _) S4 T4
set_option maxRecDepth 8000 in
theorem torn_all (h : s.ok) (hw : s.whole) (hm : mayP L = true) (hU : lgU s.S + (encP L).length ≤ 504) (pk : List Int) : lgL ((tornB s L 6).crash pk).S = lgL s.S ++ [L] := by
  have hE : apE s.S L = 0 := apE_iff.2 ⟨hm, hU⟩
  have e : tornB s L 6 = s.append L := by
    rw [MS.append, if_pos hE]
    unfold MS.keep
    rw [leB_length]
    simp only [tornB]
    simp
  obtain ⟨r1, r2, r3, -⟩ := append_is h (MS.still_cov hw.1) hE
  have hc : ((s.append L).crash pk).S = (s.append L).S := by
    refine ext_getD (by rw [(r1.ok_crash pk).S, r1.S]) fun j hj => ?_
    rw [(r1.ok_crash pk).S] at hj
    exact mixed_same r1 pk hj (by rw [show (s.append L).S = (s.append L).T from r2])
  rw [e, hc, r3]
end
end Go.Proofs.Ytlinlmimakealaa

namespace Go.Proofs.Ytlinlmimakealaa

/-- A patch within the memory and ahead of the log. -/
def PT.lowB (p : PT) : Bool := decide (0 ≤ p.pos) && (decide (p.pos + (p.dat.size : Int) ≤ 512) && decide (p.pos ≤ 512))
theorem PT.lowB_iff {p : PT} : p.lowB = true ↔ 0 ≤ p.pos ∧ p.pos + (p.dat.size : Int) ≤ 512 ∧ p.pos ≤ 512 := by simp [PT.lowB]
def lowL (L : List PT) : List PT := L.filter PT.lowB
theorem lowL_low {L : List PT} : ∀ p ∈ lowL L, p.lowB = true := fun _ hp => (List.mem_filter.1 hp).2
theorem lowL_sub {L : List PT} : ∀ p ∈ lowL L, p ∈ L := fun _ hp => (List.mem_filter.1 hp).1
theorem lowL_length (L : List PT) : (lowL L).length ≤ L.length := List.length_filter_le _ _
theorem lowL_yes {L : List PT} {k : Nat} {r : PT} (h : L[k]? = some r) (hr : r.lowB = true) : lowL (L.take (k + 1)) = lowL (L.take k) ++ [r] := by
  rw [lowL, lowL, List.take_add_one, h, List.filter_append]; simp [hr]
theorem lowL_no {L : List PT} {k : Nat} {r : PT} (h : L[k]? = some r) (hr : r.lowB = false) : lowL (L.take (k + 1)) = lowL (L.take k) := by
  rw [lowL, lowL, List.take_add_one, h, List.filter_append]; simp [hr]
def covP (p : PT) (j : Nat) : Prop := p.pos.toNat ≤ j ∧ j < p.pos.toNat + p.dat.size
theorem low_in {p : PT} (h : p.lowB = true) : inW 1024 p.pos p.dat.size = true := by
  obtain ⟨h1, h2, h3⟩ := PT.lowB_iff.1 h
  exact inW_iff.2 ⟨h1, by omega, by omega⟩
theorem low_cov {p : PT} (h : p.lowB = true) {j : Nat} (hj : covP p j) : j < 512 := by
  obtain ⟨h1, h2, h3⟩ := PT.lowB_iff.1 h
  obtain ⟨h4, h5⟩ := hj
  omega
theorem patS_len (S : List UInt8) (p : PT) : (patS S p).length = S.length := by
  unfold patS
  split
  · rw [putL_length]
  · rfl
theorem fold_len (L : List PT) : ∀ S, (L.foldl patS S).length = S.length := by
  induction L with
  | nil => intro S; rfl
  | cons p L ih => intro S; rw [List.foldl_cons, ih, patS_len]
theorem patS_get {p : PT} (h : p.lowB = true) {S : List UInt8} (hS : S.length = 1024) (j : Nat) : (patS S p).getD j 0 = if p.pos.toNat ≤ j ∧ j < p.pos.toNat + p.dat.size then p.txt.getD (j - p.pos.toNat) 0 else S.getD j 0 := by
  obtain ⟨h1, h2, h3⟩ := PT.lowB_iff.1 h
  unfold patS
  rw [low_in h, if_pos rfl, putL_get _ _ _ _ (by rw [PT.txt_length, hS]; omega), PT.txt_length]
theorem fold_no {j : Nat} (L : List PT) : (∀ p ∈ L, p.lowB = true) → (∀ p ∈ L, ¬ covP p j) → ∀ S, S.length = 1024 → (L.foldl patS S).getD j 0 = S.getD j 0 := by
  induction L with
  | nil => intro _ _ S _; rfl
  | cons p L ih =>
    intro h hc S hS
    rw [List.foldl_cons, ih (fun q hq => h q (List.mem_cons_of_mem _ hq)) (fun q hq => hc q (List.mem_cons_of_mem _ hq)) _ (by rw [patS_len, hS]), patS_get (h p List.mem_cons_self) hS]
    exact if_neg (hc p List.mem_cons_self)
theorem fold_yes {j : Nat} (L : List PT) : (∀ p ∈ L, p.lowB = true) → (∃ p ∈ L, covP p j) → ∃ v, ∀ S, S.length = 1024 → (L.foldl patS S).getD j 0 = v := by
  induction L with
  | nil => intro _ ⟨p, hp, _⟩; simp at hp
  | cons p L ih =>
    intro h hc
    by_cases q : ∃ p ∈ L, covP p j
    · obtain ⟨v, hv⟩ := ih (fun q hq => h q (List.mem_cons_of_mem _ hq)) q
      exact ⟨v, fun S hS => by rw [List.foldl_cons]; exact hv _ (by rw [patS_len, hS])⟩
    · have hp : covP p j := by
        obtain ⟨r, hr, hrj⟩ := hc
        rcases List.mem_cons.1 hr with rfl | hr
        · exact hrj
        · exact absurd ⟨r, hr, hrj⟩ q
      refine ⟨p.txt.getD (j - p.pos.toNat) 0, fun S hS => ?_⟩
      rw [List.foldl_cons, fold_no L (fun q hq => h q (List.mem_cons_of_mem _ hq)) (fun r hr k => q ⟨r, hr, k⟩) _ (by rw [patS_len, hS]), patS_get (h p List.mem_cons_self) hS]
      exact if_pos hp

/-- Patches that are stored, and neither flushed nor fenced. -/
def MS.stores (s : MS) (L : List PT) : MS := L.foldl (fun s p => s.store p.pos p.txt) s
theorem stores_step {s : MS} {L : List PT} {k : Nat} {r : PT} (h : L[k]? = some r) : s.stores (L.take (k + 1)) = (s.stores (L.take k)).store r.pos r.txt := by
  rw [MS.stores, MS.stores, List.take_add_one, h, List.foldl_append]; rfl
theorem stores_is (L : List PT) : ∀ s : MS, s.ok → (∀ p ∈ L, p.lowB = true) → (s.stores L).ok ∧ (s.stores L).S = L.foldl patS s.S ∧ (s.stores L).T = s.T := by
  induction L with
  | nil => intro s h _; exact ⟨h, rfl, rfl⟩
  | cons p L ih =>
    intro s h hl
    have hp := low_in (hl p List.mem_cons_self)
    obtain ⟨i1, i2, i3⟩ := ih (s.store p.pos p.txt) (h.ok_store _ _) (fun q hq => hl q (List.mem_cons_of_mem _ hq))
    have e : s.stores (p :: L) = (s.store p.pos p.txt).stores L := rfl
    rw [e]
    refine ⟨i1, ?_, ?_⟩
    · rw [i2, List.foldl_cons, MS.store_in (by rw [PT.txt_length]; exact hp), patS, hp, if_pos rfl]
    · rw [i3, MS.store_in (by rw [PT.txt_length]; exact hp)]

/-- The log lies in the last half. -/
theorem log_high {S S' : List UInt8} (h : S.length = 1024) (h' : S'.length = 1024) (hS : ∀ j, 512 ≤ j → j < 1024 → S'.getD j 0 = S.getD j 0) : lgE S' = lgE S ∧ lgL S' = lgL S := by
  have e : S'.drop 512 = S.drop 512 := by
    refine ext_getD (by rw [List.length_drop, List.length_drop]; omega) fun j hj => ?_
    rw [List.length_drop] at hj
    have := hS (512 + j) (by omega) (by omega)
    simp only [List.getD_eq_getElem?_getD, List.getElem?_drop] at this ⊢
    exact this
  have hE : lgE S' = lgE S := by
    rw [lgE, lgE, ← lg_head h', ← lg_head h, e]
  refine ⟨hE, ?_⟩
  have e2 : S'.drop 520 = S.drop 520 := by
    have := congrArg (List.drop 8) e
    rw [List.drop_drop, List.drop_drop] at this
    exact this
  rw [lgL, lgL, lgB, lgB, hE, e2]

/-- Redo of both: the one as it was, the other with some patches stored, and a crash behind them. -/
theorem twice_same {s : MS} (h : s.ok) (hs : s.still) {all : List PT} (ha : (lgL s.S).flatten = all) (hl : ∀ p ∈ all, p.lowB = true) (k : Nat) (pk : List Int) :
    lgL ((s.stores (all.take k)).crash pk).S = lgL s.S ∧ s.redo.T.take 512 = ((s.stores (all.take k)).crash pk).redo.T.take 512 ∧ lgE s.redo.S = 0 ∧ lgE ((s.stores (all.take k)).crash pk).redo.S = 0 := by
  have hlk : ∀ p ∈ all.take k, p.lowB = true := fun p hp => hl p (List.mem_of_mem_take hp)
  obtain ⟨i1, i2, i3⟩ := stores_is (all.take k) s h hlk
  obtain ⟨t, ht⟩ : ∃ t, t = s.stores (all.take k) := ⟨_, rfl⟩
  rw [← ht] at i1 i2 i3 ⊢
  obtain ⟨u, hu⟩ : ∃ u, u = t.crash pk := ⟨_, rfl⟩
  have ok2 : u.ok := by rw [hu]; exact i1.ok_crash pk
  have st2 : u.still := by rw [hu]; rfl
  have hget : ∀ j, j < 1024 → u.S.getD j 0 = t.S.getD j 0 ∨ u.S.getD j 0 = s.S.getD j 0 := by
    intro j hj
    have e : u.S = mixL t.S t.T (crashB (dirtyL t.S t.T 128) pk (dirtyL t.S t.T 128).length) := by rw [hu]; rfl
    rw [e, mixL_get _ _ _ _ (by rw [i1.T]; exact hj)]
    split
    · exact .inl rfl
    · right; rw [i3, ← show s.S = s.T from hs]
  rw [← hu]
  have hlog : lgE u.S = lgE s.S ∧ lgL u.S = lgL s.S := log_high h.S ok2.S fun j h1 h2 => by
    rcases hget j h2 with q | q
    · rw [q, i2, fold_no _ hlk (fun p hp c => by have := low_cov (hlk p hp) c; omega) _ h.S]
    · exact q
  obtain ⟨r1, r2, r3⟩ := redo_is h (MS.still_cov hs)
  obtain ⟨q1, q2, q3⟩ := redo_is ok2 (MS.still_cov st2)
  rw [hlog.2, ha] at q3
  rw [ha] at r3
  have l1 : (all.foldl patS s.S).length = 1024 := by rw [fold_len, h.S]
  have l2 : (all.foldl patS u.S).length = 1024 := by rw [fold_len, ok2.S]
  refine ⟨hlog.2, ?_, by rw [r3]; exact lgE_wiped l1, by rw [q3]; exact lgE_wiped l2⟩
  rw [← show s.redo.S = s.redo.T from r2, ← show u.redo.S = u.redo.T from q2, r3, q3]
  refine ext_getD (by rw [List.length_take, List.length_take, putL_length, putL_length]; omega) fun j hj => ?_
  rw [List.length_take, putL_length] at hj
  have hg : ∀ S : List UInt8, S.length = 1024 → ((putL S 512 (List.replicate 8 0)).take 512).getD j 0 = S.getD j 0 := by
    intro S hS
    have := putL_get (List.replicate 8 0) S 512 j (by rw [hS]; decide)
    rw [if_neg (by omega)] at this
    rw [← this]
    simp only [List.getD_eq_getElem?_getD, List.getElem?_take]
    rw [if_pos (by omega)]
  rw [hg _ l1, hg _ l2]
  by_cases hc : ∃ p ∈ all, covP p j
  · obtain ⟨v, hv⟩ := fold_yes all hl hc
    rw [hv _ h.S, hv _ ok2.S]
  · rw [fold_no all hl (fun p hp k => hc ⟨p, hp, k⟩) _ h.S, fold_no all hl (fun p hp k => hc ⟨p, hp, k⟩) _ ok2.S]
    rcases hget j (by omega) with q | q
    · rw [q, i2, fold_no _ hlk (fun p hp k => hc ⟨p, List.mem_of_mem_take hp, k⟩) _ h.S]
    · exact q.symm
end Go.Proofs.Ytlinlmimakealaa

namespace Go.Proofs.Ytlinlmimakealaa

theorem small_enc {L : List PT} (h : ∀ p ∈ L, p.dat.size ≤ 40) : (encF L).length ≤ L.length * 46 := by
  induction L with
  | nil => exact Nat.le_refl _
  | cons p L ih =>
    have h1 := ih fun q hq => h q (List.mem_cons_of_mem _ hq)
    have h2 := h p List.mem_cons_self
    rw [show encF (p :: L) = p.enc ++ encF L from rfl, List.length_append, PT.enc_length, List.length_cons]
    omega
theorem whole_may {L : List PT} (hn : L.length ≤ 5) (hl : ∀ p ∈ L, p.lowB = true) (hs : ∀ p ∈ L, p.dat.size ≤ 40) : mayP L = true ∧ lgU fresh.S + (encP L).length ≤ 504 := by
  refine ⟨mayP_iff.2 ⟨by omega, List.all_eq_true.2 fun p hp => PT.may_iff.2 ⟨?_, by have := hs p hp; omega⟩⟩, ?_⟩
  · obtain ⟨h1, h2, h3⟩ := PT.lowB_iff.1 (hl p hp)
    obtain ⟨q, hq⟩ : ∃ q : Nat, p.pos = (q : Int) := ⟨p.pos.toNat, by omega⟩
    rw [hq]
    unfold fitsB
    exact decide_eq_true ⟨by omega, .inr (.inl ⟨rfl, by omega⟩)⟩
  · have h1 := small_enc hs
    rw [fresh_log.2.2, encP_length]
    unfold fillN
    omega
/-- The states within Commit. -/
def twk (L : List PT) (k : Nat) : MS :=
  if k = 0 then tornB fresh L 1 else if k = 1 then tornB fresh L 3 else if k = 2 then tornB fresh L 4 else if k = 3 then tornB fresh L 6 else (tornB fresh L 6).stores (L.take 1)
/-- The half ahead of the log is empty. -/
def low0 (s : MS) : Prop := ∀ j, j < 512 → s.S.getD j 0 = 0 ∧ s.T.getD j 0 = 0
theorem low0.store {s : MS} (h : low0 s) (hk : s.ok) (a : Nat) (ha : 512 ≤ a) (bs : List UInt8) : low0 (s.store (a : Int) bs) := fun j hj => by
  refine ⟨?_, (h j hj).2⟩
  by_cases hin : inW 1024 (a : Int) bs.length = true
  · rw [MS.store_in hin]
    show (putL s.S (a : Int).toNat bs).getD j 0 = 0
    have := (inW_iff.1 hin).2.2
    rw [putL_get _ _ _ _ (by rw [hk.S]; omega), if_neg (by omega)]
    exact (h j hj).1
  · have : (s.store (a : Int) bs) = s := by
      have e : inW 1024 (a : Int) bs.length = false := by simpa using hin
      unfold MS.store storeS storeA
      rw [show (8 * 128 : Nat) = 1024 from rfl, e]
      rfl
    rw [this]; exact (h j hj).1
theorem low0.flush {s : MS} (h : low0 s) (a n : Int) : low0 (s.flush a n) := h
theorem low0.fence {s : MS} (h : low0 s) (hk : s.ok) : low0 s.fence := fun j hj => by
  refine ⟨(h j hj).1, ?_⟩
  show (mixL s.S s.T fun k => s.A.getD k false).getD j 0 = 0
  rw [mixL_get _ _ _ _ (by rw [hk.T]; omega)]
  split
  · exact (h j hj).1
  · exact (h j hj).2
theorem low0.crash {s : MS} (h : low0 s) (hk : s.ok) (pk : List Int) : ∀ j, j < 512 → (s.crash pk).S.getD j 0 = 0 := fun j hj => by
  show (mixL s.S s.T (crashB (dirtyL s.S s.T 128) pk (dirtyL s.S s.T 128).length)).getD j 0 = 0
  rw [mixL_get _ _ _ _ (by rw [hk.T]; omega)]
  split
  · exact (h j hj).1
  · exact (h j hj).2
theorem low0.fresh : low0 fresh := fun j hj => by
  have h : (List.replicate (8 * 128) (0 : UInt8)).getD j 0 = 0 := by
    rw [List.getD_eq_getElem?_getD, List.getElem?_replicate, if_pos (by omega)]; rfl
  exact ⟨h, h⟩
/-- Redo of two memories whose logs hold the same. -/
theorem redo_low {u u' : MS} (h : u.ok) (hs : u.still) (h' : u'.ok) (hs' : u'.still) {all : List PT} (ha : (lgL u.S).flatten = all) (ha' : (lgL u'.S).flatten = all) (hl : ∀ p ∈ all, p.lowB = true)
    (hg : ∀ j, j < 512 → (∀ p ∈ all, ¬ covP p j) → u.S.getD j 0 = u'.S.getD j 0) : u.redo.T.take 512 = u'.redo.T.take 512 := by
  obtain ⟨r1, r2, r3⟩ := redo_is h (MS.still_cov hs)
  obtain ⟨q1, q2, q3⟩ := redo_is h' (MS.still_cov hs')
  rw [ha] at r3
  rw [ha'] at q3
  have l1 : (all.foldl patS u.S).length = 1024 := by rw [fold_len, h.S]
  have l2 : (all.foldl patS u'.S).length = 1024 := by rw [fold_len, h'.S]
  rw [← show u.redo.S = u.redo.T from r2, ← show u'.redo.S = u'.redo.T from q2, r3, q3]
  refine ext_getD (by rw [List.length_take, List.length_take, putL_length, putL_length]; omega) fun j hj => ?_
  rw [List.length_take, putL_length] at hj
  have hp : ∀ S : List UInt8, S.length = 1024 → ((putL S 512 (List.replicate 8 0)).take 512).getD j 0 = S.getD j 0 := by
    intro S hS
    have := putL_get (List.replicate 8 0) S 512 j (by rw [hS]; decide)
    rw [if_neg (by omega)] at this
    rw [← this]
    simp only [List.getD_eq_getElem?_getD, List.getElem?_take]
    rw [if_pos (by omega)]
  rw [hp _ l1, hp _ l2]
  by_cases hc : ∃ p ∈ all, covP p j
  · obtain ⟨v, hv⟩ := fold_yes all hl hc
    rw [hv _ h.S, hv _ h'.S]
  · rw [fold_no all hl (fun p hp k => hc ⟨p, hp, k⟩) _ h.S, fold_no all hl (fun p hp k => hc ⟨p, hp, k⟩) _ h'.S]
    exact hg j (by omega) fun p hp k => hc ⟨p, hp, k⟩
theorem fresh_take (S : List UInt8) (hS : S.length = 1024) (h : ∀ j, j < 512 → S.getD j 0 = 0) : S.take 512 = (fresh.S.drop 0).take 512 := by
  refine ext_getD (by rw [List.length_take, List.length_take, List.length_drop, hS, fresh_ok.S]) fun j hj => ?_
  rw [List.length_take, hS] at hj
  have h1 := h j (by omega)
  have h2 := (low0.fresh j (by omega)).1
  simp only [List.getD_eq_getElem?_getD, List.getElem?_take, List.drop_zero] at h1 h2 ⊢
  rw [if_pos (by omega), if_pos (by omega), h1, h2]
set_option maxRecDepth 8000 in
theorem whole_is {L : List PT} (hn : L.length ≤ 5) (hl : ∀ p ∈ L, p.lowB = true) (hs : ∀ p ∈ L, p.dat.size ≤ 40) (pk : List Int) (k : Nat) (hk : k < 5) :
    (k ≤ 2 ∧ lgL ((twk L k).crash pk).S = [] ∧ ((twk L k).crash pk).redo.T.take 512 = (fresh.S.drop 0).take 512) ∨
    (2 ≤ k ∧ lgL ((twk L k).crash pk).S = [L] ∧ ((twk L k).crash pk).redo.T.take 512 = (fresh.append L).redo.T.take 512) := by
  obtain ⟨hm, hU⟩ := whole_may hn hl hs
  have hw : fresh.whole := ⟨fresh_still, by rw [fresh_log.1, fresh_log.2.2]⟩
  have hE : apE fresh.S L = 0 := apE_iff.2 ⟨hm, hU⟩
  obtain ⟨a1, a2, a3, -⟩ := append_is fresh_ok (MS.still_cov fresh_still) hE
  rw [fresh_log.2.1, List.nil_append] at a3
  have e6 : tornB fresh L 6 = fresh.append L := by
    rw [MS.append, if_pos hE]
    unfold MS.keep
    rw [leB_length]
    rfl
  have none : ∀ s : MS, s.ok → low0 s → lgL (s.crash pk).S = [] → (s.crash pk).redo.T.take 512 = (fresh.S.drop 0).take 512 := by
    intro s h1 h2 h3
    have ok := h1.ok_crash pk
    obtain ⟨r1, r2, r3⟩ := redo_is ok (MS.still_cov (show (s.crash pk).still from rfl))
    rw [h3] at r3
    rw [← show (s.crash pk).redo.S = (s.crash pk).redo.T from r2, r3]
    refine fresh_take _ (by rw [putL_length]; exact ok.S) fun j hj => ?_
    rw [putL_get _ _ _ _ (by rw [show ([] : List (List PT)).flatten.foldl patS (s.crash pk).S = (s.crash pk).S from rfl, ok.S]; decide), if_neg (by omega)]
    exact low0.crash h2 h1 pk j hj
  have q1 : (tornB fresh L 1).ok ∧ low0 (tornB fresh L 1) := ⟨fresh_ok.ok_store _ _, low0.fresh.store fresh_ok _ (by omega) _⟩
  have q3 : (tornB fresh L 3).ok ∧ low0 (tornB fresh L 3) := ⟨(q1.1.ok_flush _ _).ok_fence, (q1.2.flush _ _).fence (q1.1.ok_flush _ _)⟩
  have q4 : (tornB fresh L 4).ok ∧ low0 (tornB fresh L 4) := ⟨q3.1.ok_store _ _, low0.store q3.2 q3.1 512 (by omega) _⟩
  have low_a : low0 (fresh.append L) := by
    rw [← e6]
    exact low0.fence (s := (tornB fresh L 4).flush 512 8) (q4.2.flush _ _) (q4.1.ok_flush _ _)
  match k, hk with
  | 0, _ =>
    have h := torn_few fresh_ok hw hU pk 1 (by decide)
    rw [fresh_log.2.1] at h
    exact .inl ⟨by decide, h, none _ q1.1 q1.2 h⟩
  | 1, _ =>
    have h := torn_few fresh_ok hw hU pk 3 (by decide)
    rw [fresh_log.2.1] at h
    exact .inl ⟨by decide, h, none _ q3.1 q3.2 h⟩
  | 2, _ =>
    rcases torn_mid fresh_ok hw hm hU pk 4 (.inl rfl) with h | h
    · rw [fresh_log.2.1] at h
      exact .inl ⟨by decide, h, none _ q4.1 q4.2 h⟩
    · rw [fresh_log.2.1, List.nil_append] at h
      refine .inr ⟨by decide, h, redo_low (all := L) (q4.1.ok_crash pk) rfl a1 a2 (by rw [show (twk L 2).crash pk = (tornB fresh L 4).crash pk from rfl, h]; simp) (by rw [a3]; simp) hl fun j hj _ => ?_⟩
      rw [show ((twk L 2).crash pk).S.getD j 0 = 0 from low0.crash q4.2 q4.1 pk j hj, (low_a j hj).1]
  | 3, _ =>
    have h := twice_same a1 a2 (all := L) (by rw [a3]; simp) hl 0 pk
    refine .inr ⟨by decide, ?_, ?_⟩
    · rw [show twk L 3 = tornB fresh L 6 from rfl, e6, ← a3]; exact h.1
    · rw [show twk L 3 = tornB fresh L 6 from rfl, e6]; exact h.2.1.symm
  | 4, _ =>
    have h := twice_same a1 a2 (all := L) (by rw [a3]; simp) hl 1 pk
    refine .inr ⟨by decide, ?_, ?_⟩
    · rw [show twk L 4 = (tornB fresh L 6).stores (L.take 1) from rfl, e6, ← a3]; exact h.1
    · rw [show twk L 4 = (tornB fresh L 6).stores (L.take 1) from rfl, e6]; exact h.2.1.symm
end Go.Proofs.Ytlinlmimakealaa
