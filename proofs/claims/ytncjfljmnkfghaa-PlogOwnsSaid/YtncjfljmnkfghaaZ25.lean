/- What a crash within Append leaves, in plain words. No statement of the seat is proved here. -/
import Derived.Test.YtncjfljmnkfghaaZ08
namespace Go.Proofs.Ytncjfljmnkfghaa

/-- All that is seen lasts, and the log's end is where its records end. -/
def MS.whole (s : MS) : Prop := s.still ∧ lgE s.S = lgU s.S
theorem app_end {S : List UInt8} {L : List PT} (h : S.length = 1024) (hU : lgU S + (encP L).length ≤ 504) :
    lgE (putL (putL S (520 + lgU S) (encP L)) 512 (leB (lgU S + (encP L).length) 8)) = lgU S + (encP L).length := by
  obtain ⟨U, hUU⟩ : ∃ U, U = lgU S := ⟨_, rfl⟩
  obtain ⟨b, hb⟩ : ∃ b, b = encP L := ⟨_, rfl⟩
  rw [← hUU, ← hb] at hU ⊢
  have l1 : (putL S (520 + U) b).length = 1024 := by rw [putL_length]; exact h
  have e2 := putL_eq (leB (U + b.length) 8) (putL S (520 + U) b) 512 (by rw [leB_length]; omega)
  rw [leB_length] at e2
  obtain ⟨S2, hS2⟩ : ∃ S2, S2 = putL (putL S (520 + U) b) 512 (leB (U + b.length) 8) := ⟨_, rfl⟩
  rw [← hS2] at e2 ⊢
  have g := get_mid (bs := S2) (p := (putL S (520 + U) b).take 512) (q := (putL S (520 + U) b).drop 520) (n := ((U + b.length : Nat) : Int)) (a := 512) (wd := 8) (by rw [e2]; rfl) (by rw [List.length_take]; omega) (by simp [fitsB]; omega) (by omega)
  have g1 : getN S2 512 8 = ((U + b.length : Nat) : Int) := g.1
  rw [lgE, g1, if_neg (by omega)]; omega
theorem append_whole {s : MS} (h : s.ok) (hw : s.whole) (L : List PT) : (s.append L).ok ∧ (s.append L).whole := by
  by_cases hE : apE s.S L = 0
  · obtain ⟨h1, h2⟩ := apE_iff.1 hE
    obtain ⟨r1, r2, -, r4⟩ := append_is h (MS.still_cov hw.1) hE
    refine ⟨r1, r2, ?_⟩
    rw [r4, app_end h.S h2, (app_log h.S h1 h2).2]
  · rw [MS.append, if_neg hE]; exact ⟨h, hw⟩

/-- What agrees up to the records' end has the same records. -/
theorem log_same {S S' : List UInt8} (h : S.length = 1024) (h' : S'.length = 1024) (hE : lgE S = lgU S) (hS : ∀ j, j < 520 + lgU S → S'.getD j 0 = S.getD j 0) : lgL S' = lgL S := by
  have hU := lgU_le (S := S)
  have e8 : (S'.drop 512).take 8 = (S.drop 512).take 8 := by
    refine ext_getD (by rw [List.length_take, List.length_take, List.length_drop, List.length_drop]; omega) fun j hj => ?_
    rw [List.length_take, List.length_drop] at hj
    have := hS (512 + j) (by omega)
    simp only [List.getD_eq_getElem?_getD, List.getElem?_take, List.getElem?_drop] at this ⊢
    rw [if_pos (by omega), if_pos (by omega)]
    exact this
  have hg : getN S' 512 8 = getN S 512 8 := by
    rw [← lg_head h', ← lg_head h, e8]
  have hE' : lgE S' = lgE S := by rw [lgE, lgE, hg]
  have hB : lgB S' = lgB S := by
    rw [lgB, lgB, hE', hE]
    refine ext_getD (by rw [List.length_take, List.length_take, List.length_drop, List.length_drop]; omega) fun j hj => ?_
    rw [List.length_take, List.length_drop] at hj
    have := hS (520 + j) (by omega)
    simp only [List.getD_eq_getElem?_getD, List.getElem?_take, List.getElem?_drop] at this ⊢
    rw [if_pos (by omega), if_pos (by omega)]
    exact this
  rw [lgL, lgL, hB]
theorem mixed_same {s : MS} (h : s.ok) (pk : List Int) {j : Nat} (hj : j < 1024) (hS : s.S.getD j 0 = s.T.getD j 0) : (s.crash pk).S.getD j 0 = s.S.getD j 0 := by
  show (mixL s.S s.T _).getD j 0 = _
  rw [mixL_get _ _ _ _ (by rw [h.T]; exact hj)]
  split
  · rfl
  · exact hS.symm

section
variable {s : MS} {L : List PT}
/-- The states within Append, step by step. -/
def tornB (s : MS) (L : List PT) (k : Nat) : MS :=
  let s1 := if 0 < k then s.store ((520 + lgU s.S : Nat) : Int) (encP L) else s
  let s2 := if 1 < k then s1.flush ((520 + lgU s.S : Nat) : Int) (encP L).length else s1
  let s3 := if 2 < k then s2.fence else s2
  let s4 := if 3 < k then s3.store 512 (leB (lgU s.S + (encP L).length) 8) else s3
  let s5 := if 4 < k then s4.flush 512 8 else s4
  if 5 < k then s5.fence else s5
set_option maxRecDepth 8000 in
theorem torn_few (h : s.ok) (hw : s.whole) (hU : lgU s.S + (encP L).length ≤ 504) (pk : List Int) :
    ∀ k, k ≤ 3 → lgL ((tornB s L k).crash pk).S = lgL s.S := by
  have hin : inW 1024 ((520 + lgU s.S : Nat) : Int) (encP L).length = true := by simp [inW]; omega
  have hput : ∀ j, j < 520 + lgU s.S → (putL s.S (520 + lgU s.S) (encP L)).getD j 0 = s.S.getD j 0 := fun j hj => by
    rw [putL_get _ _ _ _ (by rw [h.S]; omega), if_neg (by omega)]
  have hU5 := lgU_le (S := s.S)
  have key : ∀ s' : MS, s'.ok → s'.S = putL s.S (520 + lgU s.S) (encP L) → (∀ j, j < 520 + lgU s.S → s'.S.getD j 0 = s'.T.getD j 0) → lgL (s'.crash pk).S = lgL s.S := by
    intro s' h1 h2 h3
    refine log_same h.S (h1.ok_crash pk).S hw.2 fun j hj => ?_
    rw [mixed_same h1 pk (by omega) (h3 j hj), h2, hput j hj]
  have hS1 : (s.store ((520 + lgU s.S : Nat) : Int) (encP L)).S = putL s.S (520 + lgU s.S) (encP L) := by rw [MS.store_in hin]; rfl
  have hT1 : (s.store ((520 + lgU s.S : Nat) : Int) (encP L)).T = s.T := by rw [MS.store_in hin]
  have hagree : ∀ j, j < 520 + lgU s.S → (putL s.S (520 + lgU s.S) (encP L)).getD j 0 = s.T.getD j 0 := fun j hj => by rw [hput j hj, hw.1]
  intro k hk
  match k, hk with
  | 0, _ =>
    refine log_same h.S (h.ok_crash pk).S hw.2 fun j hj => ?_
    exact mixed_same h pk (by omega) (by rw [hw.1])
  | 1, _ =>
    exact key _ (h.ok_store _ _) hS1 fun j hj => by show (s.store ((520 + lgU s.S : Nat) : Int) (encP L)).S.getD j 0 = (s.store ((520 + lgU s.S : Nat) : Int) (encP L)).T.getD j 0; rw [hS1, hT1]; exact hagree j hj
  | 2, _ =>
    exact key _ ((h.ok_store _ _).ok_flush _ _) hS1 fun j hj => by show (s.store ((520 + lgU s.S : Nat) : Int) (encP L)).S.getD j 0 = (s.store ((520 + lgU s.S : Nat) : Int) (encP L)).T.getD j 0; rw [hS1, hT1]; exact hagree j hj
  | 3, _ =>
    have hst : (s.keep ((520 + lgU s.S : Nat) : Int) (encP L)).still := MS.keep_still h (MS.still_cov hw.1) _ _
    exact key (s.keep ((520 + lgU s.S : Nat) : Int) (encP L)) (h.ok_keep _ _) (MS.keep_S hin) fun j _ => congrArg (fun z => z.getD j 0) (show (s.keep ((520 + lgU s.S : Nat) : Int) (encP L)).S = (s.keep ((520 + lgU s.S : Nat) : Int) (encP L)).T from hst)
set_option maxRecDepth 8000 in
theorem torn_mid (h : s.ok) (hw : s.whole) (hm : mayP L = true) (hU : lgU s.S + (encP L).length ≤ 504) (pk : List Int) :
    ∀ k, k = 4 ∨ k = 5 → lgL ((tornB s L k).crash pk).S = lgL s.S ∨ lgL ((tornB s L k).crash pk).S = lgL s.S ++ [L] := by
  have hin : inW 1024 ((520 + lgU s.S : Nat) : Int) (encP L).length = true := by simp [inW]; omega
  have hin2 : inW 1024 512 ((leB (lgU s.S + (encP L).length) 8).length : Nat) = true := by rw [leB_length]; simp [inW]
  obtain ⟨s3, hs3⟩ : ∃ s3, s3 = s.keep ((520 + lgU s.S : Nat) : Int) (encP L) := ⟨_, rfl⟩
  have ok3 : s3.ok := by rw [hs3]; exact h.ok_keep _ _
  have st3 : s3.S = s3.T := by rw [hs3]; exact MS.keep_still h (MS.still_cov hw.1) _ _
  have S3 : s3.S = putL s.S (520 + lgU s.S) (encP L) := by rw [hs3]; exact MS.keep_S hin
  have l3 : lgL s3.S = lgL s.S := by
    refine log_same h.S ok3.S hw.2 fun j hj => ?_
    rw [S3, putL_get _ _ _ _ (by rw [h.S]; omega), if_neg (by omega)]
  have S4 : (s3.store 512 (leB (lgU s.S + (encP L).length) 8)).S = putL s3.S 512 (leB (lgU s.S + (encP L).length) 8) := by rw [MS.store_in hin2]; rfl
  have T4 : (s3.store 512 (leB (lgU s.S + (encP L).length) 8)).T = s3.S := by rw [MS.store_in hin2, st3]
  have l4 : lgL (putL s3.S 512 (leB (lgU s.S + (encP L).length) 8)) = lgL s.S ++ [L] := by rw [S3]; exact (app_log h.S hm hU).1
  have key : ∀ s' : MS, s'.ok → s'.S = putL s3.S 512 (leB (lgU s.S + (encP L).length) 8) → s'.T = s3.S → lgL (s'.crash pk).S = lgL s.S ∨ lgL (s'.crash pk).S = lgL s.S ++ [L] := by
    intro s' h1 h2 h3
    obtain ⟨B, hB⟩ : ∃ B, B = crashB (dirtyL s'.S s'.T 128) pk (dirtyL s'.S s'.T 128).length := ⟨_, rfl⟩
    have hc : (s'.crash pk).S = mixL s'.S s'.T B := by rw [hB]; rfl
    have hg : ∀ j, j < 1024 → (mixL s'.S s'.T B).getD j 0 = if B (j / 8) then (putL s3.S 512 (leB (lgU s.S + (encP L).length) 8)).getD j 0 else s3.S.getD j 0 := fun j hj => by rw [mixL_get _ _ _ _ (by rw [h1.T]; exact hj), h2, h3]
    have hp : ∀ j, ¬ (512 ≤ j ∧ j < 520) → (putL s3.S 512 (leB (lgU s.S + (encP L).length) 8)).getD j 0 = s3.S.getD j 0 := fun j hj => by
      rw [putL_get _ _ _ _ (by rw [leB_length, ok3.S]; decide), leB_length, if_neg hj]
    cases hb : B 64 with
    | true =>
      right
      rw [hc, ← l4]
      refine congrArg lgL (ext_getD (by rw [mixL_length, putL_length, h1.T, ok3.S]) fun j hj => ?_)
      rw [mixL_length, h1.T] at hj
      rw [hg j hj]
      by_cases h8 : 512 ≤ j ∧ j < 520
      · rw [show j / 8 = 64 by omega, hb]; rfl
      · rw [hp j h8]; simp
    | false =>
      left
      rw [hc, ← l3]
      refine congrArg lgL (ext_getD (by rw [mixL_length, h1.T, ok3.S]) fun j hj => ?_)
      rw [mixL_length, h1.T] at hj
      rw [hg j hj]
      by_cases h8 : 512 ≤ j ∧ j < 520
      · rw [show j / 8 = 64 by omega, hb]; rfl
      · rw [hp j h8]; simp
  intro k hk
  rcases hk with rfl | rfl
  · have e : tornB s L 4 = s3.store 512 (leB (lgU s.S + (encP L).length) 8) := by rw [hs3]; rfl
    rw [e]
    exact key _ (ok3.ok_store _ _) S4 T4
  · have e : tornB s L 5 = (s3.store 512 (leB (lgU s.S + (encP L).length) 8)).flush 512 8 := by rw [hs3]; rfl
    rw [e]
    exact key _ ((ok3.ok_store _ _).ok_flush _ _) S4 T4
set_option maxRecDepth 8000 in
theorem torn_all (h : s.ok) (hw : s.whole) (hm : mayP L = true) (hU : lgU s.S + (encP L).length ≤ 504) (pk : List Int) : lgL ((tornB s L 6).crash pk).S = lgL s.S ++ [L] := by
  have hE : apE s.S L = 0 := apE_iff.2 ⟨hm, hU⟩
  have e : tornB s L 6 = s.append L := by
    rw [MS.append, if_pos hE]
    unfold MS.keep
    rw [leB_length]
    simp only [tornB]
    simp
  obtain ⟨r1, r2, r3, -⟩ := append_is h (MS.still_cov hw.1) hE
  have hc : ((s.append L).crash pk).S = (s.append L).S := by
    refine ext_getD (by rw [(r1.ok_crash pk).S, r1.S]) fun j hj => ?_
    rw [(r1.ok_crash pk).S] at hj
    exact mixed_same r1 pk hj (by rw [show (s.append L).S = (s.append L).T from r2])
  rw [e, hc, r3]
end
end Go.Proofs.Ytncjfljmnkfghaa
