/- The laws' example: plain words. The laws' example. No statement of the seat is proved here. -/
import Derived.Test.YtdlcpfgogjcciaaZ25
namespace Go.Proofs.Ytdlcpfgogjcciaa
open Go.RowKit Go.Great

def lx1 : PK := { kind := 1, client := 2, epoch := 1, seq := 1, op := 1, at_ := 7808, data := ⟨#[120]⟩ }
def lx2 : PK := { kind := 1, client := 2, epoch := 0, seq := 1, op := 1, at_ := 7808, data := ⟨#[120]⟩ }
def lx3 : PK := { kind := 1, client := 2, epoch := 1, seq := 2, op := 1, at_ := 6784, data := ⟨#[120]⟩ }
theorem small_ok {p : PK} (h : p = lx1 ∨ p = lx2 ∨ p = lx3) : p.ok := by
  rcases h with rfl | rfl | rfl
  · exact { zero_ok with kind := i64_lit (by decide), client := i64_lit (by decide), epoch := i64_lit (by decide), seq := i64_lit (by decide), op := i64_lit (by decide), at_ := ⟨by decide, by decide⟩, data := by decide }
  · exact { zero_ok with kind := i64_lit (by decide), client := i64_lit (by decide), epoch := i64_lit (by decide), seq := i64_lit (by decide), op := i64_lit (by decide), at_ := ⟨by decide, by decide⟩, data := by decide }
  · exact { zero_ok with kind := i64_lit (by decide), client := i64_lit (by decide), epoch := i64_lit (by decide), seq := i64_lit (by decide), op := i64_lit (by decide), at_ := ⟨by decide, by decide⟩, data := by decide }
theorem lput {p : PK} (h : p = lx1 ∨ p = lx2 ∨ p = lx3) : putE p = 0 := by
  have e : ∃ l, innerP p = some l ∧ normP p = p := by
    rcases h with rfl | rfl | rfl
    · exact ⟨_, (by decide +kernel : innerP lx1 = some [1, 2, 1, 0, 0, 0, 1, 0, 0, 0, 0, 0, 0, 0, 1, 128, 30, 0, 0, 0, 0, 1, 0, 120, 0, 0, 0, 0, 0, 0, 0, 0, 0, 0, 0, 0, 0, 0, 0, 0]), by decide +kernel⟩
    · exact ⟨_, (by decide +kernel : innerP lx2 = some [1, 2, 0, 0, 0, 0, 1, 0, 0, 0, 0, 0, 0, 0, 1, 128, 30, 0, 0, 0, 0, 1, 0, 120, 0, 0, 0, 0, 0, 0, 0, 0, 0, 0, 0, 0, 0, 0, 0, 0]), by decide +kernel⟩
    · exact ⟨_, (by decide +kernel : innerP lx3 = some [1, 2, 1, 0, 0, 0, 2, 0, 0, 0, 0, 0, 0, 0, 1, 128, 26, 0, 0, 0, 0, 1, 0, 120, 0, 0, 0, 0, 0, 0, 0, 0, 0, 0, 0, 0, 0, 0, 0, 0]), by decide +kernel⟩
  obtain ⟨l, h1, h2⟩ := e
  unfold putE
  rw [putP_some h1 h2]
  rfl
/-- What the example's four verbs answer. -/
theorem live_is {s : CS} (h : s.ok) (hs : s.side 2 = { ep := 1 }) : ∃ s2 s5 : CS, s2.ok ∧ s5.ok ∧ doP s lx1 = (askP lx1, true, s2) ∧ s2.fresh = true ∧ doP s2 lx1 = (askP lx1, true, s2.stale) ∧ doP s2.stale lx2 = (ansP lx2 31 ⟨#[]⟩ 0, true, s2.stale.stale) ∧ doP s2.stale.stale lx3 = (ansP lx3 35 ⟨#[]⟩ 0, true, s5) ∧ (s5.side 2).ep = 1 := by
  have v1 : ∀ m, verbV m lx1 = (askP lx1, m.store 7808 [120]) := fun m => by
    unfold verbV
    rw [if_neg (by decide), if_neg (by decide), if_neg (by decide)]
    unfold putV
    rw [if_pos (by decide +kernel)]
    rfl
  have v3 : ∀ m, verbV m lx3 = (ansP lx3 35 ⟨#[]⟩ 0, m) := fun m => by
    unfold verbV
    rw [if_neg (by decide), if_neg (by decide), if_neg (by decide)]
    unfold putV
    rw [if_neg (by decide +kernel)]
    rfl
  have hc : (1 : Int) ≤ 2 ∧ (2 : Int) ≤ 8 := by decide
  have e1 : doP s lx1 = doneP s lx1 := by
    unfold doP
    rw [if_pos ⟨lput (.inl rfl), rfl⟩, show s.side lx1.client = _ from hs]
    exact (if_pos (rfl : (1 : Int) = 1)).trans ((if_neg (by decide : ¬ (1 : Int) = 0)).trans (if_pos (by decide +kernel : (1 : Int) = wrap64 (0 + 1))))
  obtain ⟨s2, hs2⟩ : ∃ s2 : CS, s2 = (doP s lx1).2.2 := ⟨_, rfl⟩
  have o2 : s2.ok := by rw [hs2]; exact (doP_ok h (small_ok (.inl rfl))).2.2
  have d1 : doP s lx1 = (askP lx1, true, s2) := by
    rw [hs2, e1]
    unfold doneP
    rw [v1]
  have k2 : s2.side 2 = { ep := 1, la := 1, told := askP lx1, had := true } := by
    rw [hs2, e1]
    unfold doneP
    rw [v1]
    show (CS.mk _ (s.setSide 2 _) _).side 2 = _
    rw [side_set h hc, show s.side lx1.client = _ from hs]
    rfl
  have f2 : s2.fresh = true := by
    rw [hs2, e1]
    unfold doneP
    rw [v1]
    rfl
  have d2 : ∀ t : CS, t.side 2 = { ep := 1, la := 1, told := askP lx1, had := true } → doP t lx1 = (askP lx1, true, t.stale) := fun t ht => by
    unfold doP
    rw [if_pos ⟨lput (.inl rfl), rfl⟩, show t.side lx1.client = _ from ht]
    exact (if_pos (rfl : (1 : Int) = 1)).trans (if_pos (rfl : (1 : Int) = 1))
  have d3 : ∀ t : CS, t.side 2 = { ep := 1, la := 1, told := askP lx1, had := true } → doP t lx2 = (ansP lx2 31 ⟨#[]⟩ 0, true, t.stale) := fun t ht => by
    unfold doP
    rw [if_pos ⟨lput (.inr (.inl rfl)), rfl⟩, show t.side lx2.client = _ from ht, if_neg (by decide)]
  have e4 : ∀ t : CS, t.side 2 = { ep := 1, la := 1, told := askP lx1, had := true } → doP t lx3 = doneP t lx3 := fun t ht => by
    unfold doP
    rw [if_pos ⟨lput (.inr (.inr rfl)), rfl⟩, show t.side lx3.client = _ from ht]
    exact (if_pos (rfl : (1 : Int) = 1)).trans ((if_neg (by decide : ¬ (2 : Int) = 1)).trans (if_pos (by decide +kernel : (2 : Int) = wrap64 (1 + 1))))
  obtain ⟨s5, hs5⟩ : ∃ s5 : CS, s5 = (doP s2.stale.stale lx3).2.2 := ⟨_, rfl⟩
  have k3 : s2.stale.stale.side 2 = { ep := 1, la := 1, told := askP lx1, had := true } := k2
  have o5 : s5.ok := by rw [hs5]; exact (doP_ok o2.stale.stale (small_ok (.inr (.inr rfl)))).2.2
  refine ⟨s2, s5, o2, o5, d1, f2, d2 s2 k2, d3 s2.stale k2, ?_, ?_⟩
  · rw [hs5, e4 _ k3]
    unfold doneP
    rw [v3]
  · rw [hs5, e4 _ k3]
    unfold doneP
    rw [v3]
    show ((CS.mk _ (s2.stale.stale.setSide 2 _) _).side 2).ep = 1
    rw [side_set o2.stale.stale hc, show s2.stale.stale.side lx3.client = _ from k3]
end Go.Proofs.Ytdlcpfgogjcciaa

namespace Go.Proofs.Ytdlcpfgogjcciaa
open Go.RowKit Go.Great

theorem do_call {W : World} {pb c d z : Nat} {x y : MB} {s s' t : CS} {p a : PK} {b : Bool} (h : doP s p = (a, b, s')) (hp : p.ok) (hn : p.names = []) : ∀ v, P20 W v pb c d z x y s t →
    Calls Try.prog 8 #[.pointer (some ⟨c, 0, none⟩), .agg (p.cells (.slice none 0 0)).toArray] v (fun r w' => r = .returned (.tuple #[.agg (a.cells (.slice none 0 0)).toArray, .bool b]) ∧ CD w' c x s' ∧ Turn (fun k => x.F k ∨ k = c) v w') := by
  intro v hP
  have := card_do hP.cd p hp (A := none) (k := 0) (cc := 0) (by rw [hn]; rfl) (by rw [hn]; exact RS.nil _) (fun h0 => absurd h0 (by decide))
  rw [h] at this
  exact this

set_option maxHeartbeats 16000000 in
set_option maxRecDepth 8000 in
theorem lives20 (W : World) : Calls Try.prog 9 #[] W fun r w' => r = .returned (.bool true) ∧ Grow W w' := by
  go_enter Try.func9, Try.ntmps9
  go_wp2_with fail
  refine (begin20 W).mono ?_
  rintro r wa ⟨pb, rfl, c, d, z, x, y, h⟩
  have HPa := Lib.hid h
  have p1 := HPa.out.row.1.2 1 _ rfl
  clear h
  go_wp2_with fail
  refine (card_set HPa.out.cd 2 1 (i64_lit (by decide))).mono ?_
  rintro r wb ⟨rfl, h2, t2⟩
  have hc2 : (1 : Int) ≤ 2 ∧ (2 : Int) ≤ 8 := by decide
  have hs1 : setP (newS 2896) 2 1 = { newS 2896 with L := (newS 2896).setSide 2 { ep := 1 } } := by unfold setP; rw [if_pos hc2]
  obtain ⟨s1, hq⟩ : ∃ s1, s1 = setP (newS 2896) 2 1 := ⟨_, rfl⟩
  have ho1 : s1.ok := by rw [hq]; exact setP_ok (newS_ok _) (i64_lit (by decide))
  have hd1 : s1.side 2 = { ep := 1 } := by rw [hq, hs1]; exact side_set (newS_ok _) hc2 _ _ _
  rw [← hq] at h2
  have HPb := Lib.hid (HPa.out.card h2 (t2.mono fun k e => .inr e))
  obtain ⟨s2, s5, o2, o5, L1, f2, L2, L3, L4, L5⟩ := live_is ho1 hd1
  have HL1 := Lib.hid L1
  have HL2 := Lib.hid L2
  have HL3 := Lib.hid L3
  have HL4 := Lib.hid L4
  have HL5 := Lib.hid L5
  have HFR := Lib.hid f2
  clear h2 t2 hc2 hs1 hq ho1 hd1 o2 o5 L1 f2 L2 L3 L4 L5 HPa p1
  go_upto_region 5 with (fail)
  refine wp_region_list ?_
  refine wpList_buildTo rfl 36 _ rfl (some 21) rfl (lx1.cells (.slice none 0 0)).toArray (by kernel_rfl) ?_
  have hg0 := Row.new wb 36 zP #[.int .i64 0, .int .i64 0, .int .i64 0, .int .i64 0, .int .i64 0, .int .i64 0, .int .i64 0, .string ⟨#[]⟩, .int .i64 0, .int .i64 0, .int .i64 0, .string ⟨#[]⟩, .string ⟨#[]⟩, .int .i64 0, .int .i64 0, .int .i64 0, .int .i64 0, .string ⟨#[]⟩, .int .i64 0, .int .i64 0, .int .i64 0, .int .i64 0, .string ⟨#[]⟩, .slice none 0 0, .int .i64 0, .int .i64 0, .int .i64 0, .int .i64 0, .int .i64 0, .int .i64 0, .int .i64 0, .int .i64 0, .int .i64 0, .int .i64 0, .int .i64 0, .int .i64 0, .int .i64 0, .int .i64 0, .int .i64 0, .int .i64 0, .int .i64 0, .int .i64 0, .int .i64 0] rfl
  have ga := (Grow.refl wb).alloc (.cells #[.int .i64 0, .int .i64 0, .int .i64 0, .int .i64 0, .int .i64 0, .int .i64 0, .int .i64 0, .string ⟨#[]⟩, .int .i64 0, .int .i64 0, .int .i64 0, .string ⟨#[]⟩, .string ⟨#[]⟩, .int .i64 0, .int .i64 0, .int .i64 0, .int .i64 0, .string ⟨#[]⟩, .int .i64 0, .int .i64 0, .int .i64 0, .int .i64 0, .string ⟨#[]⟩, .slice none 0 0, .int .i64 0, .int .i64 0, .int .i64 0, .int .i64 0, .int .i64 0, .int .i64 0, .int .i64 0, .int .i64 0, .int .i64 0, .int .i64 0, .int .i64 0, .int .i64 0, .int .i64 0, .int .i64 0, .int .i64 0, .int .i64 0, .int .i64 0, .int .i64 0, .int .i64 0] 36)
  refine wpList_allocTo rfl (some 2) rfl (.pointer (some ⟨wb.heap.size, 0, none⟩)) (.cells #[.int .i64 0, .int .i64 0, .int .i64 0, .int .i64 0, .int .i64 0, .int .i64 0, .int .i64 0, .string ⟨#[]⟩, .int .i64 0, .int .i64 0, .int .i64 0, .string ⟨#[]⟩, .string ⟨#[]⟩, .int .i64 0, .int .i64 0, .int .i64 0, .int .i64 0, .string ⟨#[]⟩, .int .i64 0, .int .i64 0, .int .i64 0, .int .i64 0, .string ⟨#[]⟩, .slice none 0 0, .int .i64 0, .int .i64 0, .int .i64 0, .int .i64 0, .int .i64 0, .int .i64 0, .int .i64 0, .int .i64 0, .int .i64 0, .int .i64 0, .int .i64 0, .int .i64 0, .int .i64 0, .int .i64 0, .int .i64 0, .int .i64 0, .int .i64 0, .int .i64 0, .int .i64 0] 36) (by kernel_rfl) ?_
  obtain ⟨w6, hw6⟩ : ∃ j, j = wb.alloc (.cells #[.int .i64 0, .int .i64 0, .int .i64 0, .int .i64 0, .int .i64 0, .int .i64 0, .int .i64 0, .string ⟨#[]⟩, .int .i64 0, .int .i64 0, .int .i64 0, .string ⟨#[]⟩, .string ⟨#[]⟩, .int .i64 0, .int .i64 0, .int .i64 0, .int .i64 0, .string ⟨#[]⟩, .int .i64 0, .int .i64 0, .int .i64 0, .int .i64 0, .string ⟨#[]⟩, .slice none 0 0, .int .i64 0, .int .i64 0, .int .i64 0, .int .i64 0, .int .i64 0, .int .i64 0, .int .i64 0, .int .i64 0, .int .i64 0, .int .i64 0, .int .i64 0, .int .i64 0, .int .i64 0, .int .i64 0, .int .i64 0, .int .i64 0, .int .i64 0, .int .i64 0, .int .i64 0] 36) := ⟨_, rfl⟩
  obtain ⟨xb, hxb⟩ : ∃ j, j = wb.heap.size := ⟨_, rfl⟩
  rw [← hw6] at hg0 ga ⊢
  rw [← hxb] at hg0 ⊢
  have HQF := Lib.hid (far20 HPb.out (Nat.le_of_eq hxb.symm))
  have HG0 := Lib.hid hg0
  have HGA := Lib.hid ga
  clear hw6 hxb hg0 ga
  go_simp
  refine wpList_storeRow rfl 36 (.tmp 2) (.tmp 21) rfl rfl xb (by first | (go_simp; done) | rfl) (lx1.cells (.slice none 0 0)) zP (by first | (go_simp; done) | rfl) HG0.out rfl pk_size (PK.one _ rfl) ?_
  intro w0 r0 t0 z0
  have HX := Lib.hid r0
  have HP0 := Lib.hid ((HPb.out.keep HGA.out).far HQF.out t0)
  clear r0 t0 z0 HG0 HGA HPb
  have HCALL := Lib.hid (do_call (W := W) (pb := pb) (c := c) (d := d) (z := z) (x := x) (y := y) (t := newS 2896) HL1.out (small_ok (.inl rfl)) rfl)
  go_upto_region 6 with (fail)
  go_cut [3, 4] (fun va vb wx => ∃ u, va = .pointer (some ⟨u, 0, none⟩) ∧ vb = .bool true ∧ P20 W wx pb c d z x y s2 (newS 2896) ∧ Row wx xb (lx1.cells (.slice none 0 0)) ∧ Row wx u ((askP lx1).cells (.slice none 0 0)) ∧ Far c d z pb x y W u ∧ ¬ u = xb)
  case first =>
    have hsS := And.intro (HP0.out.row.1.2 1 _ rfl) HX.out.1.range
    refine wp_region_held_drew (S := fun w' => w'.cell? ⟨pb, 1, none⟩ = some (.pointer (some ⟨c, 0, none⟩)) ∧ w'.rangeAt xb 0 (lx1.cells (.slice none 0 0))) (by kernel_rfl) ?_ (fun hHeld => ?_)
    · exact hsS
    clear hsS
    refine wpAnyH_take (i := 0) (oi := _) (v := ?_) rfl (by kernel_rfl) (by kernel_rfl) (by kernel_rfl) (fun _ _ _ h => h) (Or.inl ⟨by rfl, ?_⟩) (by assumption) ?_
    rotate_left
    · (intro w hSw; obtain ⟨q1, -⟩ := hSw; go_simp; (try with_reducible rfl))
    simp only [Act.put, List.getElem_toArray, List.getElem_cons_zero, List.setIfInBounds_toArray, List.set_cons_zero, List.set_cons_succ]
    refine wpAnyH_take (i := 1) (oi := _) (v := ?_) rfl (by kernel_rfl) (by kernel_rfl) (by kernel_rfl) (fun _ _ _ h => h) (Or.inl ⟨by rfl, ?_⟩) (by assumption) ?_
    rotate_left
    · (intro w hSw; obtain ⟨q1, -⟩ := hSw; go_simp; (try with_reducible rfl))
    simp only [Act.put, List.getElem_toArray, List.getElem_cons_succ, List.getElem_cons_zero, List.setIfInBounds_toArray, List.set_cons_zero, List.set_cons_succ]
    refine wpAnyH_take (i := 2) (oi := _) (v := ?_) rfl (by kernel_rfl) (by kernel_rfl) (by kernel_rfl) (fun _ _ _ h => h) (Or.inl ⟨by rfl, ?_⟩) (by assumption) ?_
    rotate_left
    · (intro w hSw; obtain ⟨q1, -⟩ := hSw; go_simp; (try with_reducible rfl))
    simp only [Act.put, List.getElem_toArray, List.getElem_cons_succ, List.getElem_cons_zero, List.setIfInBounds_toArray, List.set_cons_zero, List.set_cons_succ]
    refine wpAnyH_take (i := 3) (oi := _) (v := ?_) rfl (by kernel_rfl) (by kernel_rfl) (by kernel_rfl) (fun _ _ _ h => h) (Or.inl ⟨by rfl, ?_⟩) (by assumption) ?_
    rotate_left
    · (intro w hSw; obtain ⟨q1, -⟩ := hSw; go_simp; (try with_reducible rfl))
    simp only [Act.put, List.getElem_toArray, List.getElem_cons_succ, List.getElem_cons_zero, List.setIfInBounds_toArray, List.set_cons_zero, List.set_cons_succ]
    refine wpAnyH_take (i := 4) (oi := _) (v := .agg (lx1.cells (.slice none 0 0)).toArray) rfl (by kernel_rfl) (by kernel_rfl) (by kernel_rfl) (fun _ _ _ h => h) (yieldsIf_load_mid (by rfl) 36 (.tmp 2) rfl xb 0 (by first | (go_simp; done) | rfl) (lx1.cells (.slice none 0 0)) _ (fun w hS => hS.2) Try.underlying36 rfl pk_size) (by assumption) ?_
    simp only [Act.put, List.getElem_toArray, List.getElem_cons_succ, List.getElem_cons_zero, List.setIfInBounds_toArray, List.set_cons_zero, List.set_cons_succ]
    have gdr := (Grow.refl w0).drew
    refine wpAnyH_ready (rs := [5, 9]) (by kernel_rfl) (by simp) ?_
    refine AllReadyH.cons (o := _) rfl (fun K hK => ?_) (AllReadyH.cons (o := _) rfl (fun K hK => ?_) AllReadyH.nil)
    · refine of_wanted (by rfl) ?_
      refine wp_callTo (some 28) rfl 8 #[.pointer (some ⟨c, 0, none⟩), .agg (lx1.cells (.slice none 0 0)).toArray] (by kernel_rfl) _ (HCALL.out w0.drew (HP0.out.keep gdr)) (fun r w' k => ⟨_, k.1⟩) ?_
      rintro v w5 ⟨he, h5, t5⟩
      obtain rfl : v = .tuple #[.agg ((askP lx1).cells (.slice none 0 0)).toArray, .bool true] := by injection he
      clear he
      have HP5 := Lib.hid ((HP0.out.keep gdr).card h5 t5)
      have HQ5 := Lib.hid ((HX.out.keep gdr).turnW t5 (fun k => k.elim HQF.out.x HQF.out.c))
      refine hK.out _ _ ⟨HP5.out.row.1.2 1 _ rfl, HQ5.out.1.range⟩ (fun hHeld2 => ?_)
      clear hK K h5 t5 hHeld gdr
      simp only [Act.put, List.setIfInBounds_toArray, List.set_cons_zero, List.set_cons_succ]
      refine wpAnyH_take (i := 6) (oi := _) (v := .tuple #[.agg ((askP lx1).cells (.slice none 0 0)).toArray, .bool true]) rfl (by kernel_rfl) (by kernel_rfl) (by kernel_rfl) (fun _ _ _ h => h) (Or.inl ⟨by rfl, ?_⟩) (by assumption) ?_
      · (intro w hSw; clear hSw; go_simp; (try with_reducible rfl))
      simp only [Act.put, List.getElem_toArray, List.getElem_cons_succ, List.getElem_cons_zero, List.setIfInBounds_toArray, List.set_cons_zero, List.set_cons_succ]
      refine wpAnyH_take (i := 7) (oi := _) (v := .agg ((askP lx1).cells (.slice none 0 0)).toArray) rfl (by kernel_rfl) (by kernel_rfl) (by kernel_rfl) (fun _ _ _ h => h) (Or.inl ⟨by rfl, ?_⟩) (by assumption) ?_
      · (intro w hSw; clear hSw; go_simp; (try with_reducible rfl))
      simp only [Act.put, List.getElem_toArray, List.getElem_cons_succ, List.getElem_cons_zero, List.setIfInBounds_toArray, List.set_cons_zero, List.set_cons_succ]
      refine wpAnyH_take (i := 8) (oi := _) (v := .bool true) rfl (by kernel_rfl) (by kernel_rfl) (by kernel_rfl) (fun _ _ _ h => h) (Or.inl ⟨by rfl, ?_⟩) (by assumption) ?_
      · (intro w hSw; clear hSw; go_simp; (try with_reducible rfl))
      simp only [Act.put, List.getElem_toArray, List.getElem_cons_succ, List.getElem_cons_zero, List.setIfInBounds_toArray, List.set_cons_zero, List.set_cons_succ]
      have hu0 := Row.new w5 36 zP #[.int .i64 0, .int .i64 0, .int .i64 0, .int .i64 0, .int .i64 0, .int .i64 0, .int .i64 0, .string ⟨#[]⟩, .int .i64 0, .int .i64 0, .int .i64 0, .string ⟨#[]⟩, .string ⟨#[]⟩, .int .i64 0, .int .i64 0, .int .i64 0, .int .i64 0, .string ⟨#[]⟩, .int .i64 0, .int .i64 0, .int .i64 0, .int .i64 0, .string ⟨#[]⟩, .slice none 0 0, .int .i64 0, .int .i64 0, .int .i64 0, .int .i64 0, .int .i64 0, .int .i64 0, .int .i64 0, .int .i64 0, .int .i64 0, .int .i64 0, .int .i64 0, .int .i64 0, .int .i64 0, .int .i64 0, .int .i64 0, .int .i64 0, .int .i64 0, .int .i64 0, .int .i64 0] rfl
      have GA := (Grow.refl w5).alloc (.cells #[.int .i64 0, .int .i64 0, .int .i64 0, .int .i64 0, .int .i64 0, .int .i64 0, .int .i64 0, .string ⟨#[]⟩, .int .i64 0, .int .i64 0, .int .i64 0, .string ⟨#[]⟩, .string ⟨#[]⟩, .int .i64 0, .int .i64 0, .int .i64 0, .int .i64 0, .string ⟨#[]⟩, .int .i64 0, .int .i64 0, .int .i64 0, .int .i64 0, .string ⟨#[]⟩, .slice none 0 0, .int .i64 0, .int .i64 0, .int .i64 0, .int .i64 0, .int .i64 0, .int .i64 0, .int .i64 0, .int .i64 0, .int .i64 0, .int .i64 0, .int .i64 0, .int .i64 0, .int .i64 0, .int .i64 0, .int .i64 0, .int .i64 0, .int .i64 0, .int .i64 0, .int .i64 0] 36)
      obtain ⟨w6, hw6⟩ : ∃ j, j = w5.alloc (.cells #[.int .i64 0, .int .i64 0, .int .i64 0, .int .i64 0, .int .i64 0, .int .i64 0, .int .i64 0, .string ⟨#[]⟩, .int .i64 0, .int .i64 0, .int .i64 0, .string ⟨#[]⟩, .string ⟨#[]⟩, .int .i64 0, .int .i64 0, .int .i64 0, .int .i64 0, .string ⟨#[]⟩, .int .i64 0, .int .i64 0, .int .i64 0, .int .i64 0, .string ⟨#[]⟩, .slice none 0 0, .int .i64 0, .int .i64 0, .int .i64 0, .int .i64 0, .int .i64 0, .int .i64 0, .int .i64 0, .int .i64 0, .int .i64 0, .int .i64 0, .int .i64 0, .int .i64 0, .int .i64 0, .int .i64 0, .int .i64 0, .int .i64 0, .int .i64 0, .int .i64 0, .int .i64 0] 36) := ⟨_, rfl⟩
      obtain ⟨u, hu⟩ : ∃ j, j = w5.heap.size := ⟨_, rfl⟩
      rw [← hw6] at hu0 GA
      rw [← hu] at hu0
      have HU0 := Lib.hid hu0
      have HP6 := Lib.hid (HP5.out.keep GA)
      have HQ6 := Lib.hid (HQ5.out.keep GA)
      have HUF := Lib.hid (far20 HP5.out (Nat.le_of_eq hu.symm))
      have hqu : ¬ u = xb := by have := HQ5.out.1.1; omega
      refine wpAnyH_ready (rs := [9]) (by kernel_rfl) (by simp) ?_
      refine AllReadyH.cons (o := _) rfl (fun K hK => ?_) AllReadyH.nil
      refine of_wanted (by rfl) ?_
      refine wp_runTo (some 3) rfl (.pointer (some ⟨u, 0, none⟩)) w6 (by rw [hw6, hu]; kernel_rfl) ?_
      refine hK.out _ _ ⟨HP6.out.row.1.2 1 _ rfl, HQ6.out.1.range⟩ (fun hHeld3 => ?_)
      clear hK K hu0 hw6 hu GA HP5 HQ5 hHeld2
      simp only [Act.put, List.setIfInBounds_toArray, List.set_cons_zero, List.set_cons_succ]
      refine wpAnyH_ready (rs := [10]) (by kernel_rfl) (by simp) ?_
      refine AllReadyH.cons (o := _) rfl (fun K hK => ?_) AllReadyH.nil
      refine of_wanted (by rfl) ?_
      refine wp_store_mid 36 (.tmp 3) (.tmp 29) rfl u 0 ((askP lx1).cells (.slice none 0 0)).toArray (by rfl) (by rfl) (by rw [List.size_toArray]; exact HU0.out.there (Nat.le_refl 43)) pk_size (all_oneCell_toArray fun v hv => List.all_eq_true.1 (PK.one (askP lx1) rfl) v hv) ?_
      have t7 := setCells_turn u ((askP lx1).cells (.slice none 0 0)) 0 w6
      have HU7 := Lib.hid (HU0.out.setCells (vs := (askP lx1).cells (.slice none 0 0)) rfl)
      have HP7 := Lib.hid (HP6.out.far HUF.out t7)
      have HQ7 := Lib.hid (HQ6.out.turnW t7 (fun k => hqu k.symm))
      refine hK.out _ _ ⟨HP7.out.row.1.2 1 _ rfl, HQ7.out.1.range⟩ (fun hHeld4 => ?_)
      clear hK K t7 HU0 HP6 HQ6 hHeld3
      refine wpAnyH_take (i := 11) (oi := _) (v := .bool true) rfl (by kernel_rfl) (by kernel_rfl) (by kernel_rfl) (fun _ _ _ h => h) (Or.inl ⟨by rfl, ?_⟩) (by assumption) ?_
      · (intro w hSw; clear hSw; go_simp; (try with_reducible rfl))
      simp only [Act.put, List.getElem_toArray, List.getElem_cons_succ, List.getElem_cons_zero, List.setIfInBounds_toArray, List.set_cons_zero, List.set_cons_succ]
      refine wpAnyH_done (by kernel_rfl) ?_ _
      go_wp2_with fail
      go_meet
      exact ⟨u, rfl, rfl, HP7.out, HQ7.out, HU7.out, HUF.out, hqu⟩
    · have hu0 := Row.new w0.drew 36 zP #[.int .i64 0, .int .i64 0, .int .i64 0, .int .i64 0, .int .i64 0, .int .i64 0, .int .i64 0, .string ⟨#[]⟩, .int .i64 0, .int .i64 0, .int .i64 0, .string ⟨#[]⟩, .string ⟨#[]⟩, .int .i64 0, .int .i64 0, .int .i64 0, .int .i64 0, .string ⟨#[]⟩, .int .i64 0, .int .i64 0, .int .i64 0, .int .i64 0, .string ⟨#[]⟩, .slice none 0 0, .int .i64 0, .int .i64 0, .int .i64 0, .int .i64 0, .int .i64 0, .int .i64 0, .int .i64 0, .int .i64 0, .int .i64 0, .int .i64 0, .int .i64 0, .int .i64 0, .int .i64 0, .int .i64 0, .int .i64 0, .int .i64 0, .int .i64 0, .int .i64 0, .int .i64 0] rfl
      have GA := (Grow.refl w0.drew).alloc (.cells #[.int .i64 0, .int .i64 0, .int .i64 0, .int .i64 0, .int .i64 0, .int .i64 0, .int .i64 0, .string ⟨#[]⟩, .int .i64 0, .int .i64 0, .int .i64 0, .string ⟨#[]⟩, .string ⟨#[]⟩, .int .i64 0, .int .i64 0, .int .i64 0, .int .i64 0, .string ⟨#[]⟩, .int .i64 0, .int .i64 0, .int .i64 0, .int .i64 0, .string ⟨#[]⟩, .slice none 0 0, .int .i64 0, .int .i64 0, .int .i64 0, .int .i64 0, .int .i64 0, .int .i64 0, .int .i64 0, .int .i64 0, .int .i64 0, .int .i64 0, .int .i64 0, .int .i64 0, .int .i64 0, .int .i64 0, .int .i64 0, .int .i64 0, .int .i64 0, .int .i64 0, .int .i64 0] 36)
      obtain ⟨w5, hw5⟩ : ∃ j, j = w0.drew.alloc (.cells #[.int .i64 0, .int .i64 0, .int .i64 0, .int .i64 0, .int .i64 0, .int .i64 0, .int .i64 0, .string ⟨#[]⟩, .int .i64 0, .int .i64 0, .int .i64 0, .string ⟨#[]⟩, .string ⟨#[]⟩, .int .i64 0, .int .i64 0, .int .i64 0, .int .i64 0, .string ⟨#[]⟩, .int .i64 0, .int .i64 0, .int .i64 0, .int .i64 0, .string ⟨#[]⟩, .slice none 0 0, .int .i64 0, .int .i64 0, .int .i64 0, .int .i64 0, .int .i64 0, .int .i64 0, .int .i64 0, .int .i64 0, .int .i64 0, .int .i64 0, .int .i64 0, .int .i64 0, .int .i64 0, .int .i64 0, .int .i64 0, .int .i64 0, .int .i64 0, .int .i64 0, .int .i64 0] 36) := ⟨_, rfl⟩
      obtain ⟨u, hu⟩ : ∃ j, j = w0.drew.heap.size := ⟨_, rfl⟩
      rw [← hw5] at hu0 GA
      rw [← hu] at hu0
      have HP5 := Lib.hid (HP0.out.keep (gdr.trans GA))
      have HQ5 := Lib.hid (HX.out.keep (gdr.trans GA))
      have HUF := Lib.hid (far20 (HP0.out.keep gdr) (Nat.le_of_eq hu.symm))
      have hqu : ¬ u = xb := by have := (HX.out.keep gdr).1.1; omega
      refine of_wanted (by rfl) ?_
      refine wp_runTo (some 3) rfl (.pointer (some ⟨u, 0, none⟩)) w5 (by rw [hw5, hu]; kernel_rfl) ?_
      refine hK.out _ _ ⟨HP5.out.row.1.2 1 _ rfl, HQ5.out.1.range⟩ (fun hHeld2 => ?_)
      clear hK K hw5 hu GA hHeld gdr
      simp only [Act.put, List.setIfInBounds_toArray, List.set_cons_zero, List.set_cons_succ]
      refine wpAnyH_ready (rs := [5]) (by kernel_rfl) (by simp) ?_
      refine AllReadyH.cons (o := _) rfl (fun K hK => ?_) AllReadyH.nil
      refine of_wanted (by rfl) ?_
      refine wp_callTo (some 28) rfl 8 #[.pointer (some ⟨c, 0, none⟩), .agg (lx1.cells (.slice none 0 0)).toArray] (by kernel_rfl) _ (HCALL.out w5 HP5.out) (fun r w' k => ⟨_, k.1⟩) ?_
      rintro v w6 ⟨he, h5, t5⟩
      obtain rfl : v = .tuple #[.agg ((askP lx1).cells (.slice none 0 0)).toArray, .bool true] := by injection he
      clear he
      have HP6 := Lib.hid (HP5.out.card h5 t5)
      have HQ6 := Lib.hid (HQ5.out.turnW t5 (fun k => k.elim HQF.out.x HQF.out.c))
      have HU0 := Lib.hid (hu0.turnW t5 (fun k => k.elim HUF.out.x HUF.out.c))
      refine hK.out _ _ ⟨HP6.out.row.1.2 1 _ rfl, HQ6.out.1.range⟩ (fun hHeld3 => ?_)
      clear hK K h5 t5 hu0 HP5 HQ5 hHeld2
      simp only [Act.put, List.setIfInBounds_toArray, List.set_cons_zero, List.set_cons_succ]
      refine wpAnyH_take (i := 6) (oi := _) (v := .tuple #[.agg ((askP lx1).cells (.slice none 0 0)).toArray, .bool true]) rfl (by kernel_rfl) (by kernel_rfl) (by kernel_rfl) (fun _ _ _ h => h) (Or.inl ⟨by rfl, ?_⟩) (by assumption) ?_
      · (intro w hSw; clear hSw; go_simp; (try with_reducible rfl))
      simp only [Act.put, List.getElem_toArray, List.getElem_cons_succ, List.getElem_cons_zero, List.setIfInBounds_toArray, List.set_cons_zero, List.set_cons_succ]
      refine wpAnyH_take (i := 7) (oi := _) (v := .agg ((askP lx1).cells (.slice none 0 0)).toArray) rfl (by kernel_rfl) (by kernel_rfl) (by kernel_rfl) (fun _ _ _ h => h) (Or.inl ⟨by rfl, ?_⟩) (by assumption) ?_
      · (intro w hSw; clear hSw; go_simp; (try with_reducible rfl))
      simp only [Act.put, List.getElem_toArray, List.getElem_cons_succ, List.getElem_cons_zero, List.setIfInBounds_toArray, List.set_cons_zero, List.set_cons_succ]
      refine wpAnyH_take (i := 8) (oi := _) (v := .bool true) rfl (by kernel_rfl) (by kernel_rfl) (by kernel_rfl) (fun _ _ _ h => h) (Or.inl ⟨by rfl, ?_⟩) (by assumption) ?_
      · (intro w hSw; clear hSw; go_simp; (try with_reducible rfl))
      simp only [Act.put, List.getElem_toArray, List.getElem_cons_succ, List.getElem_cons_zero, List.setIfInBounds_toArray, List.set_cons_zero, List.set_cons_succ]
      refine wpAnyH_ready (rs := [10]) (by kernel_rfl) (by simp) ?_
      refine AllReadyH.cons (o := _) rfl (fun K hK => ?_) AllReadyH.nil
      refine of_wanted (by rfl) ?_
      refine wp_store_mid 36 (.tmp 3) (.tmp 29) rfl u 0 ((askP lx1).cells (.slice none 0 0)).toArray (by rfl) (by rfl) (by rw [List.size_toArray]; exact HU0.out.there (Nat.le_refl 43)) pk_size (all_oneCell_toArray fun v hv => List.all_eq_true.1 (PK.one (askP lx1) rfl) v hv) ?_
      have t7 := setCells_turn u ((askP lx1).cells (.slice none 0 0)) 0 w6
      have HU7 := Lib.hid (HU0.out.setCells (vs := (askP lx1).cells (.slice none 0 0)) rfl)
      have HP7 := Lib.hid (HP6.out.far HUF.out t7)
      have HQ7 := Lib.hid (HQ6.out.turnW t7 (fun k => hqu k.symm))
      refine hK.out _ _ ⟨HP7.out.row.1.2 1 _ rfl, HQ7.out.1.range⟩ (fun hHeld4 => ?_)
      clear hK K t7 HU0 HP6 HQ6 hHeld3
      refine wpAnyH_take (i := 11) (oi := _) (v := .bool true) rfl (by kernel_rfl) (by kernel_rfl) (by kernel_rfl) (fun _ _ _ h => h) (Or.inl ⟨by rfl, ?_⟩) (by assumption) ?_
      · (intro w hSw; clear hSw; go_simp; (try with_reducible rfl))
      simp only [Act.put, List.getElem_toArray, List.getElem_cons_succ, List.getElem_cons_zero, List.setIfInBounds_toArray, List.set_cons_zero, List.set_cons_succ]
      refine wpAnyH_done (by kernel_rfl) ?_ _
      go_wp2_with fail
      go_meet
      exact ⟨u, rfl, rfl, HP7.out, HQ7.out, HU7.out, HUF.out, hqu⟩
  case rest =>
    obtain ⟨u1, rfl, rfl, hp, hx, hu, hf, hne1⟩ := hcut
    obtain ⟨w1, hw⟩ : ∃ j, j = wc := ⟨_, rfl⟩
    rw [← hw] at hp hx hu ⊢
    have HP1 := Lib.hid hp
    replace HX := Lib.hid hx
    have HU1 := Lib.hid hu
    have HF1 := Lib.hid hf
    clear hw hp hx hu hf HCALL HP0
    have p1 := HP1.out.row.1.2 1 _ rfl
    go_wp2_with fail
    refine (card_freshC HP1.out.cd).mono ?_
    rintro r w1b ⟨rfl, rfl⟩
    rw [HFR.out]
    clear p1
    have HCALL := Lib.hid (do_call (W := W) (pb := pb) (c := c) (d := d) (z := z) (x := x) (y := y) (t := newS 2896) HL2.out (small_ok (.inl rfl)) rfl)
    go_upto_region 8 with (fail)
    go_cut [6, 7] (fun va vb wx => ∃ u, va = .pointer (some ⟨u, 0, none⟩) ∧ vb = .bool true ∧ P20 W wx pb c d z x y s2.stale (newS 2896) ∧ Row wx xb (lx1.cells (.slice none 0 0)) ∧ Row wx u ((askP lx1).cells (.slice none 0 0)) ∧ Far c d z pb x y W u ∧ ¬ u = xb ∧ Row wx u1 ((askP lx1).cells (.slice none 0 0)))
    case first =>
      have hsS := And.intro (HP1.out.row.1.2 1 _ rfl) HX.out.1.range
      refine wp_region_held_drew (S := fun w' => w'.cell? ⟨pb, 1, none⟩ = some (.pointer (some ⟨c, 0, none⟩)) ∧ w'.rangeAt xb 0 (lx1.cells (.slice none 0 0))) (by kernel_rfl) ?_ (fun hHeld => ?_)
      · exact hsS
      clear hsS
      refine wpAnyH_take (i := 0) (oi := _) (v := ?_) rfl (by kernel_rfl) (by kernel_rfl) (by kernel_rfl) (fun _ _ _ h => h) (Or.inl ⟨by rfl, ?_⟩) (by assumption) ?_
      rotate_left
      · (intro w hSw; obtain ⟨q1, -⟩ := hSw; go_simp; (try with_reducible rfl))
      simp only [Act.put, List.getElem_toArray, List.getElem_cons_zero, List.setIfInBounds_toArray, List.set_cons_zero, List.set_cons_succ]
      refine wpAnyH_take (i := 1) (oi := _) (v := ?_) rfl (by kernel_rfl) (by kernel_rfl) (by kernel_rfl) (fun _ _ _ h => h) (Or.inl ⟨by rfl, ?_⟩) (by assumption) ?_
      rotate_left
      · (intro w hSw; obtain ⟨q1, -⟩ := hSw; go_simp; (try with_reducible rfl))
      simp only [Act.put, List.getElem_toArray, List.getElem_cons_succ, List.getElem_cons_zero, List.setIfInBounds_toArray, List.set_cons_zero, List.set_cons_succ]
      refine wpAnyH_take (i := 2) (oi := _) (v := ?_) rfl (by kernel_rfl) (by kernel_rfl) (by kernel_rfl) (fun _ _ _ h => h) (Or.inl ⟨by rfl, ?_⟩) (by assumption) ?_
      rotate_left
      · (intro w hSw; obtain ⟨q1, -⟩ := hSw; go_simp; (try with_reducible rfl))
      simp only [Act.put, List.getElem_toArray, List.getElem_cons_succ, List.getElem_cons_zero, List.setIfInBounds_toArray, List.set_cons_zero, List.set_cons_succ]
      refine wpAnyH_take (i := 3) (oi := _) (v := ?_) rfl (by kernel_rfl) (by kernel_rfl) (by kernel_rfl) (fun _ _ _ h => h) (Or.inl ⟨by rfl, ?_⟩) (by assumption) ?_
      rotate_left
      · (intro w hSw; obtain ⟨q1, -⟩ := hSw; go_simp; (try with_reducible rfl))
      simp only [Act.put, List.getElem_toArray, List.getElem_cons_succ, List.getElem_cons_zero, List.setIfInBounds_toArray, List.set_cons_zero, List.set_cons_succ]
      refine wpAnyH_take (i := 4) (oi := _) (v := .agg (lx1.cells (.slice none 0 0)).toArray) rfl (by kernel_rfl) (by kernel_rfl) (by kernel_rfl) (fun _ _ _ h => h) (yieldsIf_load_mid (by rfl) 36 (.tmp 2) rfl xb 0 (by first | (go_simp; done) | rfl) (lx1.cells (.slice none 0 0)) _ (fun w hS => hS.2) Try.underlying36 rfl pk_size) (by assumption) ?_
      simp only [Act.put, List.getElem_toArray, List.getElem_cons_succ, List.getElem_cons_zero, List.setIfInBounds_toArray, List.set_cons_zero, List.set_cons_succ]
      have gdr := (Grow.refl w1).drew
      refine wpAnyH_ready (rs := [5, 9]) (by kernel_rfl) (by simp) ?_
      refine AllReadyH.cons (o := _) rfl (fun K hK => ?_) (AllReadyH.cons (o := _) rfl (fun K hK => ?_) AllReadyH.nil)
      · refine of_wanted (by rfl) ?_
        refine wp_callTo (some 42) rfl 8 #[.pointer (some ⟨c, 0, none⟩), .agg (lx1.cells (.slice none 0 0)).toArray] (by kernel_rfl) _ (HCALL.out w1.drew (HP1.out.keep gdr)) (fun r w' k => ⟨_, k.1⟩) ?_
        rintro v w5 ⟨he, h5, t5⟩
        obtain rfl : v = .tuple #[.agg ((askP lx1).cells (.slice none 0 0)).toArray, .bool true] := by injection he
        clear he
        have HP5 := Lib.hid ((HP1.out.keep gdr).card h5 t5)
        have HQ5 := Lib.hid ((HX.out.keep gdr).turnW t5 (fun k => k.elim HQF.out.x HQF.out.c))
        have HK05 := Lib.hid ((HU1.out.keep gdr).turnW t5 (fun k => k.elim HF1.out.x HF1.out.c))
        refine hK.out _ _ ⟨HP5.out.row.1.2 1 _ rfl, HQ5.out.1.range⟩ (fun hHeld2 => ?_)
        clear hK K h5 t5 hHeld gdr
        simp only [Act.put, List.setIfInBounds_toArray, List.set_cons_zero, List.set_cons_succ]
        refine wpAnyH_take (i := 6) (oi := _) (v := .tuple #[.agg ((askP lx1).cells (.slice none 0 0)).toArray, .bool true]) rfl (by kernel_rfl) (by kernel_rfl) (by kernel_rfl) (fun _ _ _ h => h) (Or.inl ⟨by rfl, ?_⟩) (by assumption) ?_
        · (intro w hSw; clear hSw; go_simp; (try with_reducible rfl))
        simp only [Act.put, List.getElem_toArray, List.getElem_cons_succ, List.getElem_cons_zero, List.setIfInBounds_toArray, List.set_cons_zero, List.set_cons_succ]
        refine wpAnyH_take (i := 7) (oi := _) (v := .agg ((askP lx1).cells (.slice none 0 0)).toArray) rfl (by kernel_rfl) (by kernel_rfl) (by kernel_rfl) (fun _ _ _ h => h) (Or.inl ⟨by rfl, ?_⟩) (by assumption) ?_
        · (intro w hSw; clear hSw; go_simp; (try with_reducible rfl))
        simp only [Act.put, List.getElem_toArray, List.getElem_cons_succ, List.getElem_cons_zero, List.setIfInBounds_toArray, List.set_cons_zero, List.set_cons_succ]
        refine wpAnyH_take (i := 8) (oi := _) (v := .bool true) rfl (by kernel_rfl) (by kernel_rfl) (by kernel_rfl) (fun _ _ _ h => h) (Or.inl ⟨by rfl, ?_⟩) (by assumption) ?_
        · (intro w hSw; clear hSw; go_simp; (try with_reducible rfl))
        simp only [Act.put, List.getElem_toArray, List.getElem_cons_succ, List.getElem_cons_zero, List.setIfInBounds_toArray, List.set_cons_zero, List.set_cons_succ]
        have hu0 := Row.new w5 36 zP #[.int .i64 0, .int .i64 0, .int .i64 0, .int .i64 0, .int .i64 0, .int .i64 0, .int .i64 0, .string ⟨#[]⟩, .int .i64 0, .int .i64 0, .int .i64 0, .string ⟨#[]⟩, .string ⟨#[]⟩, .int .i64 0, .int .i64 0, .int .i64 0, .int .i64 0, .string ⟨#[]⟩, .int .i64 0, .int .i64 0, .int .i64 0, .int .i64 0, .string ⟨#[]⟩, .slice none 0 0, .int .i64 0, .int .i64 0, .int .i64 0, .int .i64 0, .int .i64 0, .int .i64 0, .int .i64 0, .int .i64 0, .int .i64 0, .int .i64 0, .int .i64 0, .int .i64 0, .int .i64 0, .int .i64 0, .int .i64 0, .int .i64 0, .int .i64 0, .int .i64 0, .int .i64 0] rfl
        have GA := (Grow.refl w5).alloc (.cells #[.int .i64 0, .int .i64 0, .int .i64 0, .int .i64 0, .int .i64 0, .int .i64 0, .int .i64 0, .string ⟨#[]⟩, .int .i64 0, .int .i64 0, .int .i64 0, .string ⟨#[]⟩, .string ⟨#[]⟩, .int .i64 0, .int .i64 0, .int .i64 0, .int .i64 0, .string ⟨#[]⟩, .int .i64 0, .int .i64 0, .int .i64 0, .int .i64 0, .string ⟨#[]⟩, .slice none 0 0, .int .i64 0, .int .i64 0, .int .i64 0, .int .i64 0, .int .i64 0, .int .i64 0, .int .i64 0, .int .i64 0, .int .i64 0, .int .i64 0, .int .i64 0, .int .i64 0, .int .i64 0, .int .i64 0, .int .i64 0, .int .i64 0, .int .i64 0, .int .i64 0, .int .i64 0] 36)
        obtain ⟨w6, hw6⟩ : ∃ j, j = w5.alloc (.cells #[.int .i64 0, .int .i64 0, .int .i64 0, .int .i64 0, .int .i64 0, .int .i64 0, .int .i64 0, .string ⟨#[]⟩, .int .i64 0, .int .i64 0, .int .i64 0, .string ⟨#[]⟩, .string ⟨#[]⟩, .int .i64 0, .int .i64 0, .int .i64 0, .int .i64 0, .string ⟨#[]⟩, .int .i64 0, .int .i64 0, .int .i64 0, .int .i64 0, .string ⟨#[]⟩, .slice none 0 0, .int .i64 0, .int .i64 0, .int .i64 0, .int .i64 0, .int .i64 0, .int .i64 0, .int .i64 0, .int .i64 0, .int .i64 0, .int .i64 0, .int .i64 0, .int .i64 0, .int .i64 0, .int .i64 0, .int .i64 0, .int .i64 0, .int .i64 0, .int .i64 0, .int .i64 0] 36) := ⟨_, rfl⟩
        obtain ⟨u, hu⟩ : ∃ j, j = w5.heap.size := ⟨_, rfl⟩
        rw [← hw6] at hu0 GA
        rw [← hu] at hu0
        have HU0 := Lib.hid hu0
        have HP6 := Lib.hid (HP5.out.keep GA)
        have HQ6 := Lib.hid (HQ5.out.keep GA)
        have HUF := Lib.hid (far20 HP5.out (Nat.le_of_eq hu.symm))
        have hqu : ¬ u = xb := by have := HQ5.out.1.1; omega
        have HK06 := Lib.hid (HK05.out.keep GA)
        have hku0 : ¬ u = u1 := by have := HK05.out.1.1; omega
        refine wpAnyH_ready (rs := [9]) (by kernel_rfl) (by simp) ?_
        refine AllReadyH.cons (o := _) rfl (fun K hK => ?_) AllReadyH.nil
        refine of_wanted (by rfl) ?_
        refine wp_runTo (some 6) rfl (.pointer (some ⟨u, 0, none⟩)) w6 (by rw [hw6, hu]; kernel_rfl) ?_
        refine hK.out _ _ ⟨HP6.out.row.1.2 1 _ rfl, HQ6.out.1.range⟩ (fun hHeld3 => ?_)
        clear hK K hu0 hw6 hu GA HP5 HQ5 hHeld2
        simp only [Act.put, List.setIfInBounds_toArray, List.set_cons_zero, List.set_cons_succ]
        refine wpAnyH_ready (rs := [10]) (by kernel_rfl) (by simp) ?_
        refine AllReadyH.cons (o := _) rfl (fun K hK => ?_) AllReadyH.nil
        refine of_wanted (by rfl) ?_
        refine wp_store_mid 36 (.tmp 6) (.tmp 43) rfl u 0 ((askP lx1).cells (.slice none 0 0)).toArray (by rfl) (by rfl) (by rw [List.size_toArray]; exact HU0.out.there (Nat.le_refl 43)) pk_size (all_oneCell_toArray fun v hv => List.all_eq_true.1 (PK.one (askP lx1) rfl) v hv) ?_
        have t7 := setCells_turn u ((askP lx1).cells (.slice none 0 0)) 0 w6
        have HU7 := Lib.hid (HU0.out.setCells (vs := (askP lx1).cells (.slice none 0 0)) rfl)
        have HP7 := Lib.hid (HP6.out.far HUF.out t7)
        have HQ7 := Lib.hid (HQ6.out.turnW t7 (fun k => hqu k.symm))
        have HK07 := Lib.hid (HK06.out.turnW t7 (fun k => hku0 k.symm))
        refine hK.out _ _ ⟨HP7.out.row.1.2 1 _ rfl, HQ7.out.1.range⟩ (fun hHeld4 => ?_)
        clear hK K t7 HU0 HP6 HQ6 hHeld3
        refine wpAnyH_take (i := 11) (oi := _) (v := .bool true) rfl (by kernel_rfl) (by kernel_rfl) (by kernel_rfl) (fun _ _ _ h => h) (Or.inl ⟨by rfl, ?_⟩) (by assumption) ?_
        · (intro w hSw; clear hSw; go_simp; (try with_reducible rfl))
        simp only [Act.put, List.getElem_toArray, List.getElem_cons_succ, List.getElem_cons_zero, List.setIfInBounds_toArray, List.set_cons_zero, List.set_cons_succ]
        refine wpAnyH_done (by kernel_rfl) ?_ _
        go_wp2_with fail
        go_meet
        exact ⟨u, rfl, rfl, HP7.out, HQ7.out, HU7.out, HUF.out, hqu, HK07.out⟩
      · have hu0 := Row.new w1.drew 36 zP #[.int .i64 0, .int .i64 0, .int .i64 0, .int .i64 0, .int .i64 0, .int .i64 0, .int .i64 0, .string ⟨#[]⟩, .int .i64 0, .int .i64 0, .int .i64 0, .string ⟨#[]⟩, .string ⟨#[]⟩, .int .i64 0, .int .i64 0, .int .i64 0, .int .i64 0, .string ⟨#[]⟩, .int .i64 0, .int .i64 0, .int .i64 0, .int .i64 0, .string ⟨#[]⟩, .slice none 0 0, .int .i64 0, .int .i64 0, .int .i64 0, .int .i64 0, .int .i64 0, .int .i64 0, .int .i64 0, .int .i64 0, .int .i64 0, .int .i64 0, .int .i64 0, .int .i64 0, .int .i64 0, .int .i64 0, .int .i64 0, .int .i64 0, .int .i64 0, .int .i64 0, .int .i64 0] rfl
        have GA := (Grow.refl w1.drew).alloc (.cells #[.int .i64 0, .int .i64 0, .int .i64 0, .int .i64 0, .int .i64 0, .int .i64 0, .int .i64 0, .string ⟨#[]⟩, .int .i64 0, .int .i64 0, .int .i64 0, .string ⟨#[]⟩, .string ⟨#[]⟩, .int .i64 0, .int .i64 0, .int .i64 0, .int .i64 0, .string ⟨#[]⟩, .int .i64 0, .int .i64 0, .int .i64 0, .int .i64 0, .string ⟨#[]⟩, .slice none 0 0, .int .i64 0, .int .i64 0, .int .i64 0, .int .i64 0, .int .i64 0, .int .i64 0, .int .i64 0, .int .i64 0, .int .i64 0, .int .i64 0, .int .i64 0, .int .i64 0, .int .i64 0, .int .i64 0, .int .i64 0, .int .i64 0, .int .i64 0, .int .i64 0, .int .i64 0] 36)
        obtain ⟨w5, hw5⟩ : ∃ j, j = w1.drew.alloc (.cells #[.int .i64 0, .int .i64 0, .int .i64 0, .int .i64 0, .int .i64 0, .int .i64 0, .int .i64 0, .string ⟨#[]⟩, .int .i64 0, .int .i64 0, .int .i64 0, .string ⟨#[]⟩, .string ⟨#[]⟩, .int .i64 0, .int .i64 0, .int .i64 0, .int .i64 0, .string ⟨#[]⟩, .int .i64 0, .int .i64 0, .int .i64 0, .int .i64 0, .string ⟨#[]⟩, .slice none 0 0, .int .i64 0, .int .i64 0, .int .i64 0, .int .i64 0, .int .i64 0, .int .i64 0, .int .i64 0, .int .i64 0, .int .i64 0, .int .i64 0, .int .i64 0, .int .i64 0, .int .i64 0, .int .i64 0, .int .i64 0, .int .i64 0, .int .i64 0, .int .i64 0, .int .i64 0] 36) := ⟨_, rfl⟩
        obtain ⟨u, hu⟩ : ∃ j, j = w1.drew.heap.size := ⟨_, rfl⟩
        rw [← hw5] at hu0 GA
        rw [← hu] at hu0
        have HP5 := Lib.hid (HP1.out.keep (gdr.trans GA))
        have HQ5 := Lib.hid (HX.out.keep (gdr.trans GA))
        have HUF := Lib.hid (far20 (HP1.out.keep gdr) (Nat.le_of_eq hu.symm))
        have hqu : ¬ u = xb := by have := (HX.out.keep gdr).1.1; omega
        have HK05 := Lib.hid (HU1.out.keep (gdr.trans GA))
        have hku0 : ¬ u = u1 := by have := (HU1.out.keep gdr).1.1; omega
        refine of_wanted (by rfl) ?_
        refine wp_runTo (some 6) rfl (.pointer (some ⟨u, 0, none⟩)) w5 (by rw [hw5, hu]; kernel_rfl) ?_
        refine hK.out _ _ ⟨HP5.out.row.1.2 1 _ rfl, HQ5.out.1.range⟩ (fun hHeld2 => ?_)
        clear hK K hw5 hu GA hHeld gdr
        simp only [Act.put, List.setIfInBounds_toArray, List.set_cons_zero, List.set_cons_succ]
        refine wpAnyH_ready (rs := [5]) (by kernel_rfl) (by simp) ?_
        refine AllReadyH.cons (o := _) rfl (fun K hK => ?_) AllReadyH.nil
        refine of_wanted (by rfl) ?_
        refine wp_callTo (some 42) rfl 8 #[.pointer (some ⟨c, 0, none⟩), .agg (lx1.cells (.slice none 0 0)).toArray] (by kernel_rfl) _ (HCALL.out w5 HP5.out) (fun r w' k => ⟨_, k.1⟩) ?_
        rintro v w6 ⟨he, h5, t5⟩
        obtain rfl : v = .tuple #[.agg ((askP lx1).cells (.slice none 0 0)).toArray, .bool true] := by injection he
        clear he
        have HP6 := Lib.hid (HP5.out.card h5 t5)
        have HQ6 := Lib.hid (HQ5.out.turnW t5 (fun k => k.elim HQF.out.x HQF.out.c))
        have HU0 := Lib.hid (hu0.turnW t5 (fun k => k.elim HUF.out.x HUF.out.c))
        have HK06 := Lib.hid (HK05.out.turnW t5 (fun k => k.elim HF1.out.x HF1.out.c))
        refine hK.out _ _ ⟨HP6.out.row.1.2 1 _ rfl, HQ6.out.1.range⟩ (fun hHeld3 => ?_)
        clear hK K h5 t5 hu0 HP5 HQ5 hHeld2
        simp only [Act.put, List.setIfInBounds_toArray, List.set_cons_zero, List.set_cons_succ]
        refine wpAnyH_take (i := 6) (oi := _) (v := .tuple #[.agg ((askP lx1).cells (.slice none 0 0)).toArray, .bool true]) rfl (by kernel_rfl) (by kernel_rfl) (by kernel_rfl) (fun _ _ _ h => h) (Or.inl ⟨by rfl, ?_⟩) (by assumption) ?_
        · (intro w hSw; clear hSw; go_simp; (try with_reducible rfl))
        simp only [Act.put, List.getElem_toArray, List.getElem_cons_succ, List.getElem_cons_zero, List.setIfInBounds_toArray, List.set_cons_zero, List.set_cons_succ]
        refine wpAnyH_take (i := 7) (oi := _) (v := .agg ((askP lx1).cells (.slice none 0 0)).toArray) rfl (by kernel_rfl) (by kernel_rfl) (by kernel_rfl) (fun _ _ _ h => h) (Or.inl ⟨by rfl, ?_⟩) (by assumption) ?_
        · (intro w hSw; clear hSw; go_simp; (try with_reducible rfl))
        simp only [Act.put, List.getElem_toArray, List.getElem_cons_succ, List.getElem_cons_zero, List.setIfInBounds_toArray, List.set_cons_zero, List.set_cons_succ]
        refine wpAnyH_take (i := 8) (oi := _) (v := .bool true) rfl (by kernel_rfl) (by kernel_rfl) (by kernel_rfl) (fun _ _ _ h => h) (Or.inl ⟨by rfl, ?_⟩) (by assumption) ?_
        · (intro w hSw; clear hSw; go_simp; (try with_reducible rfl))
        simp only [Act.put, List.getElem_toArray, List.getElem_cons_succ, List.getElem_cons_zero, List.setIfInBounds_toArray, List.set_cons_zero, List.set_cons_succ]
        refine wpAnyH_ready (rs := [10]) (by kernel_rfl) (by simp) ?_
        refine AllReadyH.cons (o := _) rfl (fun K hK => ?_) AllReadyH.nil
        refine of_wanted (by rfl) ?_
        refine wp_store_mid 36 (.tmp 6) (.tmp 43) rfl u 0 ((askP lx1).cells (.slice none 0 0)).toArray (by rfl) (by rfl) (by rw [List.size_toArray]; exact HU0.out.there (Nat.le_refl 43)) pk_size (all_oneCell_toArray fun v hv => List.all_eq_true.1 (PK.one (askP lx1) rfl) v hv) ?_
        have t7 := setCells_turn u ((askP lx1).cells (.slice none 0 0)) 0 w6
        have HU7 := Lib.hid (HU0.out.setCells (vs := (askP lx1).cells (.slice none 0 0)) rfl)
        have HP7 := Lib.hid (HP6.out.far HUF.out t7)
        have HQ7 := Lib.hid (HQ6.out.turnW t7 (fun k => hqu k.symm))
        have HK07 := Lib.hid (HK06.out.turnW t7 (fun k => hku0 k.symm))
        refine hK.out _ _ ⟨HP7.out.row.1.2 1 _ rfl, HQ7.out.1.range⟩ (fun hHeld4 => ?_)
        clear hK K t7 HU0 HP6 HQ6 hHeld3
        refine wpAnyH_take (i := 11) (oi := _) (v := .bool true) rfl (by kernel_rfl) (by kernel_rfl) (by kernel_rfl) (fun _ _ _ h => h) (Or.inl ⟨by rfl, ?_⟩) (by assumption) ?_
        · (intro w hSw; clear hSw; go_simp; (try with_reducible rfl))
        simp only [Act.put, List.getElem_toArray, List.getElem_cons_succ, List.getElem_cons_zero, List.setIfInBounds_toArray, List.set_cons_zero, List.set_cons_succ]
        refine wpAnyH_done (by kernel_rfl) ?_ _
        go_wp2_with fail
        go_meet
        exact ⟨u, rfl, rfl, HP7.out, HQ7.out, HU7.out, HUF.out, hqu, HK07.out⟩
    case rest =>
      obtain ⟨u2, rfl, rfl, hp, hx, hu, hf, hne2, k0⟩ := hcut
      obtain ⟨w2, hw⟩ : ∃ j, j = wc := ⟨_, rfl⟩
      rw [← hw] at hp hx hu k0 ⊢
      have HP2 := Lib.hid hp
      replace HX := Lib.hid hx
      have HU2 := Lib.hid hu
      have HF2 := Lib.hid hf
      replace HU1 := Lib.hid k0
      clear hw hp hx hu hf HCALL HP1 k0
      have p1 := HP2.out.row.1.2 1 _ rfl
      go_wp2_with fail
      refine (card_freshC HP2.out.cd).mono ?_
      rintro r w2b ⟨rfl, rfl⟩
      rw [show s2.stale.fresh = false from rfl]
      clear p1
      have x2 := HX.out.1.2 2 _ rfl
      have xf2 := HX.out.2 2 (show 2 < 43 by decide)
      go_upto_region 11 with (fail)
      have tx : Turn (fun k => k = xb) w2 (w2.setCell ⟨xb, 2, none⟩ (.int .i64 0)) := (Turn.setCell (F := fun k => k = xb) w2 (p := ⟨xb, 2, none⟩) rfl (.int .i64 0))
      have HXn := Lib.hid (show Row (w2.setCell ⟨xb, 2, none⟩ (.int .i64 0)) xb (lx2.cells (.slice none 0 0)) from (HX.out.set (j := 2) (show 2 < 43 by decide)))
      obtain ⟨w2c, hwn⟩ : ∃ j, j = (w2.setCell ⟨xb, 2, none⟩ (.int .i64 0)) := ⟨_, rfl⟩
      rw [← hwn] at tx HXn ⊢
      have HP2c := Lib.hid (HP2.out.far HQF.out tx)
      replace HU1 := Lib.hid (HU1.out.turnW tx (fun k => hne1 k))
      replace HU2 := Lib.hid (HU2.out.turnW tx (fun k => hne2 k))
      clear HX
      have HX := Lib.hid HXn.out
      clear hwn tx HXn HP2
      clear x2 xf2
      have HCALL := Lib.hid (do_call (W := W) (pb := pb) (c := c) (d := d) (z := z) (x := x) (y := y) (t := newS 2896) HL3.out (small_ok (.inr (.inl rfl))) rfl)
      go_cut [9, 10] (fun va vb wx => ∃ u, va = .pointer (some ⟨u, 0, none⟩) ∧ vb = .bool true ∧ P20 W wx pb c d z x y s2.stale.stale (newS 2896) ∧ Row wx xb (lx2.cells (.slice none 0 0)) ∧ Row wx u ((ansP lx2 31 ⟨#[]⟩ 0).cells (.slice none 0 0)) ∧ Far c d z pb x y W u ∧ ¬ u = xb ∧ Row wx u1 ((askP lx1).cells (.slice none 0 0)) ∧ Row wx u2 ((askP lx1).cells (.slice none 0 0)))
      case first =>
        have hsS := And.intro (HP2c.out.row.1.2 1 _ rfl) HX.out.1.range
        refine wp_region_held_drew (S := fun w' => w'.cell? ⟨pb, 1, none⟩ = some (.pointer (some ⟨c, 0, none⟩)) ∧ w'.rangeAt xb 0 (lx2.cells (.slice none 0 0))) (by kernel_rfl) ?_ (fun hHeld => ?_)
        · exact hsS
        clear hsS
        refine wpAnyH_take (i := 0) (oi := _) (v := ?_) rfl (by kernel_rfl) (by kernel_rfl) (by kernel_rfl) (fun _ _ _ h => h) (Or.inl ⟨by rfl, ?_⟩) (by assumption) ?_
        rotate_left
        · (intro w hSw; obtain ⟨q1, -⟩ := hSw; go_simp; (try with_reducible rfl))
        simp only [Act.put, List.getElem_toArray, List.getElem_cons_zero, List.setIfInBounds_toArray, List.set_cons_zero, List.set_cons_succ]
        refine wpAnyH_take (i := 1) (oi := _) (v := ?_) rfl (by kernel_rfl) (by kernel_rfl) (by kernel_rfl) (fun _ _ _ h => h) (Or.inl ⟨by rfl, ?_⟩) (by assumption) ?_
        rotate_left
        · (intro w hSw; obtain ⟨q1, -⟩ := hSw; go_simp; (try with_reducible rfl))
        simp only [Act.put, List.getElem_toArray, List.getElem_cons_succ, List.getElem_cons_zero, List.setIfInBounds_toArray, List.set_cons_zero, List.set_cons_succ]
        refine wpAnyH_take (i := 2) (oi := _) (v := ?_) rfl (by kernel_rfl) (by kernel_rfl) (by kernel_rfl) (fun _ _ _ h => h) (Or.inl ⟨by rfl, ?_⟩) (by assumption) ?_
        rotate_left
        · (intro w hSw; obtain ⟨q1, -⟩ := hSw; go_simp; (try with_reducible rfl))
        simp only [Act.put, List.getElem_toArray, List.getElem_cons_succ, List.getElem_cons_zero, List.setIfInBounds_toArray, List.set_cons_zero, List.set_cons_succ]
        refine wpAnyH_take (i := 3) (oi := _) (v := ?_) rfl (by kernel_rfl) (by kernel_rfl) (by kernel_rfl) (fun _ _ _ h => h) (Or.inl ⟨by rfl, ?_⟩) (by assumption) ?_
        rotate_left
        · (intro w hSw; obtain ⟨q1, -⟩ := hSw; go_simp; (try with_reducible rfl))
        simp only [Act.put, List.getElem_toArray, List.getElem_cons_succ, List.getElem_cons_zero, List.setIfInBounds_toArray, List.set_cons_zero, List.set_cons_succ]
        refine wpAnyH_take (i := 4) (oi := _) (v := .agg (lx2.cells (.slice none 0 0)).toArray) rfl (by kernel_rfl) (by kernel_rfl) (by kernel_rfl) (fun _ _ _ h => h) (yieldsIf_load_mid (by rfl) 36 (.tmp 2) rfl xb 0 (by first | (go_simp; done) | rfl) (lx2.cells (.slice none 0 0)) _ (fun w hS => hS.2) Try.underlying36 rfl pk_size) (by assumption) ?_
        simp only [Act.put, List.getElem_toArray, List.getElem_cons_succ, List.getElem_cons_zero, List.setIfInBounds_toArray, List.set_cons_zero, List.set_cons_succ]
        have gdr := (Grow.refl w2c).drew
        refine wpAnyH_ready (rs := [5, 9]) (by kernel_rfl) (by simp) ?_
        refine AllReadyH.cons (o := _) rfl (fun K hK => ?_) (AllReadyH.cons (o := _) rfl (fun K hK => ?_) AllReadyH.nil)
        · refine of_wanted (by rfl) ?_
          refine wp_callTo (some 57) rfl 8 #[.pointer (some ⟨c, 0, none⟩), .agg (lx2.cells (.slice none 0 0)).toArray] (by kernel_rfl) _ (HCALL.out w2c.drew (HP2c.out.keep gdr)) (fun r w' k => ⟨_, k.1⟩) ?_
          rintro v w5 ⟨he, h5, t5⟩
          obtain rfl : v = .tuple #[.agg ((ansP lx2 31 ⟨#[]⟩ 0).cells (.slice none 0 0)).toArray, .bool true] := by injection he
          clear he
          have HP5 := Lib.hid ((HP2c.out.keep gdr).card h5 t5)
          have HQ5 := Lib.hid ((HX.out.keep gdr).turnW t5 (fun k => k.elim HQF.out.x HQF.out.c))
          have HK05 := Lib.hid ((HU1.out.keep gdr).turnW t5 (fun k => k.elim HF1.out.x HF1.out.c))
          have HK15 := Lib.hid ((HU2.out.keep gdr).turnW t5 (fun k => k.elim HF2.out.x HF2.out.c))
          refine hK.out _ _ ⟨HP5.out.row.1.2 1 _ rfl, HQ5.out.1.range⟩ (fun hHeld2 => ?_)
          clear hK K h5 t5 hHeld gdr
          simp only [Act.put, List.setIfInBounds_toArray, List.set_cons_zero, List.set_cons_succ]
          refine wpAnyH_take (i := 6) (oi := _) (v := .tuple #[.agg ((ansP lx2 31 ⟨#[]⟩ 0).cells (.slice none 0 0)).toArray, .bool true]) rfl (by kernel_rfl) (by kernel_rfl) (by kernel_rfl) (fun _ _ _ h => h) (Or.inl ⟨by rfl, ?_⟩) (by assumption) ?_
          · (intro w hSw; clear hSw; go_simp; (try with_reducible rfl))
          simp only [Act.put, List.getElem_toArray, List.getElem_cons_succ, List.getElem_cons_zero, List.setIfInBounds_toArray, List.set_cons_zero, List.set_cons_succ]
          refine wpAnyH_take (i := 7) (oi := _) (v := .agg ((ansP lx2 31 ⟨#[]⟩ 0).cells (.slice none 0 0)).toArray) rfl (by kernel_rfl) (by kernel_rfl) (by kernel_rfl) (fun _ _ _ h => h) (Or.inl ⟨by rfl, ?_⟩) (by assumption) ?_
          · (intro w hSw; clear hSw; go_simp; (try with_reducible rfl))
          simp only [Act.put, List.getElem_toArray, List.getElem_cons_succ, List.getElem_cons_zero, List.setIfInBounds_toArray, List.set_cons_zero, List.set_cons_succ]
          refine wpAnyH_take (i := 8) (oi := _) (v := .bool true) rfl (by kernel_rfl) (by kernel_rfl) (by kernel_rfl) (fun _ _ _ h => h) (Or.inl ⟨by rfl, ?_⟩) (by assumption) ?_
          · (intro w hSw; clear hSw; go_simp; (try with_reducible rfl))
          simp only [Act.put, List.getElem_toArray, List.getElem_cons_succ, List.getElem_cons_zero, List.setIfInBounds_toArray, List.set_cons_zero, List.set_cons_succ]
          have hu0 := Row.new w5 36 zP #[.int .i64 0, .int .i64 0, .int .i64 0, .int .i64 0, .int .i64 0, .int .i64 0, .int .i64 0, .string ⟨#[]⟩, .int .i64 0, .int .i64 0, .int .i64 0, .string ⟨#[]⟩, .string ⟨#[]⟩, .int .i64 0, .int .i64 0, .int .i64 0, .int .i64 0, .string ⟨#[]⟩, .int .i64 0, .int .i64 0, .int .i64 0, .int .i64 0, .string ⟨#[]⟩, .slice none 0 0, .int .i64 0, .int .i64 0, .int .i64 0, .int .i64 0, .int .i64 0, .int .i64 0, .int .i64 0, .int .i64 0, .int .i64 0, .int .i64 0, .int .i64 0, .int .i64 0, .int .i64 0, .int .i64 0, .int .i64 0, .int .i64 0, .int .i64 0, .int .i64 0, .int .i64 0] rfl
          have GA := (Grow.refl w5).alloc (.cells #[.int .i64 0, .int .i64 0, .int .i64 0, .int .i64 0, .int .i64 0, .int .i64 0, .int .i64 0, .string ⟨#[]⟩, .int .i64 0, .int .i64 0, .int .i64 0, .string ⟨#[]⟩, .string ⟨#[]⟩, .int .i64 0, .int .i64 0, .int .i64 0, .int .i64 0, .string ⟨#[]⟩, .int .i64 0, .int .i64 0, .int .i64 0, .int .i64 0, .string ⟨#[]⟩, .slice none 0 0, .int .i64 0, .int .i64 0, .int .i64 0, .int .i64 0, .int .i64 0, .int .i64 0, .int .i64 0, .int .i64 0, .int .i64 0, .int .i64 0, .int .i64 0, .int .i64 0, .int .i64 0, .int .i64 0, .int .i64 0, .int .i64 0, .int .i64 0, .int .i64 0, .int .i64 0] 36)
          obtain ⟨w6, hw6⟩ : ∃ j, j = w5.alloc (.cells #[.int .i64 0, .int .i64 0, .int .i64 0, .int .i64 0, .int .i64 0, .int .i64 0, .int .i64 0, .string ⟨#[]⟩, .int .i64 0, .int .i64 0, .int .i64 0, .string ⟨#[]⟩, .string ⟨#[]⟩, .int .i64 0, .int .i64 0, .int .i64 0, .int .i64 0, .string ⟨#[]⟩, .int .i64 0, .int .i64 0, .int .i64 0, .int .i64 0, .string ⟨#[]⟩, .slice none 0 0, .int .i64 0, .int .i64 0, .int .i64 0, .int .i64 0, .int .i64 0, .int .i64 0, .int .i64 0, .int .i64 0, .int .i64 0, .int .i64 0, .int .i64 0, .int .i64 0, .int .i64 0, .int .i64 0, .int .i64 0, .int .i64 0, .int .i64 0, .int .i64 0, .int .i64 0] 36) := ⟨_, rfl⟩
          obtain ⟨u, hu⟩ : ∃ j, j = w5.heap.size := ⟨_, rfl⟩
          rw [← hw6] at hu0 GA
          rw [← hu] at hu0
          have HU0 := Lib.hid hu0
          have HP6 := Lib.hid (HP5.out.keep GA)
          have HQ6 := Lib.hid (HQ5.out.keep GA)
          have HUF := Lib.hid (far20 HP5.out (Nat.le_of_eq hu.symm))
          have hqu : ¬ u = xb := by have := HQ5.out.1.1; omega
          have HK06 := Lib.hid (HK05.out.keep GA)
          have hku0 : ¬ u = u1 := by have := HK05.out.1.1; omega
          have HK16 := Lib.hid (HK15.out.keep GA)
          have hku1 : ¬ u = u2 := by have := HK15.out.1.1; omega
          refine wpAnyH_ready (rs := [9]) (by kernel_rfl) (by simp) ?_
          refine AllReadyH.cons (o := _) rfl (fun K hK => ?_) AllReadyH.nil
          refine of_wanted (by rfl) ?_
          refine wp_runTo (some 9) rfl (.pointer (some ⟨u, 0, none⟩)) w6 (by rw [hw6, hu]; kernel_rfl) ?_
          refine hK.out _ _ ⟨HP6.out.row.1.2 1 _ rfl, HQ6.out.1.range⟩ (fun hHeld3 => ?_)
          clear hK K hu0 hw6 hu GA HP5 HQ5 hHeld2
          simp only [Act.put, List.setIfInBounds_toArray, List.set_cons_zero, List.set_cons_succ]
          refine wpAnyH_ready (rs := [10]) (by kernel_rfl) (by simp) ?_
          refine AllReadyH.cons (o := _) rfl (fun K hK => ?_) AllReadyH.nil
          refine of_wanted (by rfl) ?_
          refine wp_store_mid 36 (.tmp 9) (.tmp 58) rfl u 0 ((ansP lx2 31 ⟨#[]⟩ 0).cells (.slice none 0 0)).toArray (by rfl) (by rfl) (by rw [List.size_toArray]; exact HU0.out.there (Nat.le_refl 43)) pk_size (all_oneCell_toArray fun v hv => List.all_eq_true.1 (PK.one (ansP lx2 31 ⟨#[]⟩ 0) rfl) v hv) ?_
          have t7 := setCells_turn u ((ansP lx2 31 ⟨#[]⟩ 0).cells (.slice none 0 0)) 0 w6
          have HU7 := Lib.hid (HU0.out.setCells (vs := (ansP lx2 31 ⟨#[]⟩ 0).cells (.slice none 0 0)) rfl)
          have HP7 := Lib.hid (HP6.out.far HUF.out t7)
          have HQ7 := Lib.hid (HQ6.out.turnW t7 (fun k => hqu k.symm))
          have HK07 := Lib.hid (HK06.out.turnW t7 (fun k => hku0 k.symm))
          have HK17 := Lib.hid (HK16.out.turnW t7 (fun k => hku1 k.symm))
          refine hK.out _ _ ⟨HP7.out.row.1.2 1 _ rfl, HQ7.out.1.range⟩ (fun hHeld4 => ?_)
          clear hK K t7 HU0 HP6 HQ6 hHeld3
          refine wpAnyH_take (i := 11) (oi := _) (v := .bool true) rfl (by kernel_rfl) (by kernel_rfl) (by kernel_rfl) (fun _ _ _ h => h) (Or.inl ⟨by rfl, ?_⟩) (by assumption) ?_
          · (intro w hSw; clear hSw; go_simp; (try with_reducible rfl))
          simp only [Act.put, List.getElem_toArray, List.getElem_cons_succ, List.getElem_cons_zero, List.setIfInBounds_toArray, List.set_cons_zero, List.set_cons_succ]
          refine wpAnyH_done (by kernel_rfl) ?_ _
          go_wp2_with fail
          go_meet
          exact ⟨u, rfl, rfl, HP7.out, HQ7.out, HU7.out, HUF.out, hqu, HK07.out, HK17.out⟩
        · have hu0 := Row.new w2c.drew 36 zP #[.int .i64 0, .int .i64 0, .int .i64 0, .int .i64 0, .int .i64 0, .int .i64 0, .int .i64 0, .string ⟨#[]⟩, .int .i64 0, .int .i64 0, .int .i64 0, .string ⟨#[]⟩, .string ⟨#[]⟩, .int .i64 0, .int .i64 0, .int .i64 0, .int .i64 0, .string ⟨#[]⟩, .int .i64 0, .int .i64 0, .int .i64 0, .int .i64 0, .string ⟨#[]⟩, .slice none 0 0, .int .i64 0, .int .i64 0, .int .i64 0, .int .i64 0, .int .i64 0, .int .i64 0, .int .i64 0, .int .i64 0, .int .i64 0, .int .i64 0, .int .i64 0, .int .i64 0, .int .i64 0, .int .i64 0, .int .i64 0, .int .i64 0, .int .i64 0, .int .i64 0, .int .i64 0] rfl
          have GA := (Grow.refl w2c.drew).alloc (.cells #[.int .i64 0, .int .i64 0, .int .i64 0, .int .i64 0, .int .i64 0, .int .i64 0, .int .i64 0, .string ⟨#[]⟩, .int .i64 0, .int .i64 0, .int .i64 0, .string ⟨#[]⟩, .string ⟨#[]⟩, .int .i64 0, .int .i64 0, .int .i64 0, .int .i64 0, .string ⟨#[]⟩, .int .i64 0, .int .i64 0, .int .i64 0, .int .i64 0, .string ⟨#[]⟩, .slice none 0 0, .int .i64 0, .int .i64 0, .int .i64 0, .int .i64 0, .int .i64 0, .int .i64 0, .int .i64 0, .int .i64 0, .int .i64 0, .int .i64 0, .int .i64 0, .int .i64 0, .int .i64 0, .int .i64 0, .int .i64 0, .int .i64 0, .int .i64 0, .int .i64 0, .int .i64 0] 36)
          obtain ⟨w5, hw5⟩ : ∃ j, j = w2c.drew.alloc (.cells #[.int .i64 0, .int .i64 0, .int .i64 0, .int .i64 0, .int .i64 0, .int .i64 0, .int .i64 0, .string ⟨#[]⟩, .int .i64 0, .int .i64 0, .int .i64 0, .string ⟨#[]⟩, .string ⟨#[]⟩, .int .i64 0, .int .i64 0, .int .i64 0, .int .i64 0, .string ⟨#[]⟩, .int .i64 0, .int .i64 0, .int .i64 0, .int .i64 0, .string ⟨#[]⟩, .slice none 0 0, .int .i64 0, .int .i64 0, .int .i64 0, .int .i64 0, .int .i64 0, .int .i64 0, .int .i64 0, .int .i64 0, .int .i64 0, .int .i64 0, .int .i64 0, .int .i64 0, .int .i64 0, .int .i64 0, .int .i64 0, .int .i64 0, .int .i64 0, .int .i64 0, .int .i64 0] 36) := ⟨_, rfl⟩
          obtain ⟨u, hu⟩ : ∃ j, j = w2c.drew.heap.size := ⟨_, rfl⟩
          rw [← hw5] at hu0 GA
          rw [← hu] at hu0
          have HP5 := Lib.hid (HP2c.out.keep (gdr.trans GA))
          have HQ5 := Lib.hid (HX.out.keep (gdr.trans GA))
          have HUF := Lib.hid (far20 (HP2c.out.keep gdr) (Nat.le_of_eq hu.symm))
          have hqu : ¬ u = xb := by have := (HX.out.keep gdr).1.1; omega
          have HK05 := Lib.hid (HU1.out.keep (gdr.trans GA))
          have hku0 : ¬ u = u1 := by have := (HU1.out.keep gdr).1.1; omega
          have HK15 := Lib.hid (HU2.out.keep (gdr.trans GA))
          have hku1 : ¬ u = u2 := by have := (HU2.out.keep gdr).1.1; omega
          refine of_wanted (by rfl) ?_
          refine wp_runTo (some 9) rfl (.pointer (some ⟨u, 0, none⟩)) w5 (by rw [hw5, hu]; kernel_rfl) ?_
          refine hK.out _ _ ⟨HP5.out.row.1.2 1 _ rfl, HQ5.out.1.range⟩ (fun hHeld2 => ?_)
          clear hK K hw5 hu GA hHeld gdr
          simp only [Act.put, List.setIfInBounds_toArray, List.set_cons_zero, List.set_cons_succ]
          refine wpAnyH_ready (rs := [5]) (by kernel_rfl) (by simp) ?_
          refine AllReadyH.cons (o := _) rfl (fun K hK => ?_) AllReadyH.nil
          refine of_wanted (by rfl) ?_
          refine wp_callTo (some 57) rfl 8 #[.pointer (some ⟨c, 0, none⟩), .agg (lx2.cells (.slice none 0 0)).toArray] (by kernel_rfl) _ (HCALL.out w5 HP5.out) (fun r w' k => ⟨_, k.1⟩) ?_
          rintro v w6 ⟨he, h5, t5⟩
          obtain rfl : v = .tuple #[.agg ((ansP lx2 31 ⟨#[]⟩ 0).cells (.slice none 0 0)).toArray, .bool true] := by injection he
          clear he
          have HP6 := Lib.hid (HP5.out.card h5 t5)
          have HQ6 := Lib.hid (HQ5.out.turnW t5 (fun k => k.elim HQF.out.x HQF.out.c))
          have HU0 := Lib.hid (hu0.turnW t5 (fun k => k.elim HUF.out.x HUF.out.c))
          have HK06 := Lib.hid (HK05.out.turnW t5 (fun k => k.elim HF1.out.x HF1.out.c))
          have HK16 := Lib.hid (HK15.out.turnW t5 (fun k => k.elim HF2.out.x HF2.out.c))
          refine hK.out _ _ ⟨HP6.out.row.1.2 1 _ rfl, HQ6.out.1.range⟩ (fun hHeld3 => ?_)
          clear hK K h5 t5 hu0 HP5 HQ5 hHeld2
          simp only [Act.put, List.setIfInBounds_toArray, List.set_cons_zero, List.set_cons_succ]
          refine wpAnyH_take (i := 6) (oi := _) (v := .tuple #[.agg ((ansP lx2 31 ⟨#[]⟩ 0).cells (.slice none 0 0)).toArray, .bool true]) rfl (by kernel_rfl) (by kernel_rfl) (by kernel_rfl) (fun _ _ _ h => h) (Or.inl ⟨by rfl, ?_⟩) (by assumption) ?_
          · (intro w hSw; clear hSw; go_simp; (try with_reducible rfl))
          simp only [Act.put, List.getElem_toArray, List.getElem_cons_succ, List.getElem_cons_zero, List.setIfInBounds_toArray, List.set_cons_zero, List.set_cons_succ]
          refine wpAnyH_take (i := 7) (oi := _) (v := .agg ((ansP lx2 31 ⟨#[]⟩ 0).cells (.slice none 0 0)).toArray) rfl (by kernel_rfl) (by kernel_rfl) (by kernel_rfl) (fun _ _ _ h => h) (Or.inl ⟨by rfl, ?_⟩) (by assumption) ?_
          · (intro w hSw; clear hSw; go_simp; (try with_reducible rfl))
          simp only [Act.put, List.getElem_toArray, List.getElem_cons_succ, List.getElem_cons_zero, List.setIfInBounds_toArray, List.set_cons_zero, List.set_cons_succ]
          refine wpAnyH_take (i := 8) (oi := _) (v := .bool true) rfl (by kernel_rfl) (by kernel_rfl) (by kernel_rfl) (fun _ _ _ h => h) (Or.inl ⟨by rfl, ?_⟩) (by assumption) ?_
          · (intro w hSw; clear hSw; go_simp; (try with_reducible rfl))
          simp only [Act.put, List.getElem_toArray, List.getElem_cons_succ, List.getElem_cons_zero, List.setIfInBounds_toArray, List.set_cons_zero, List.set_cons_succ]
          refine wpAnyH_ready (rs := [10]) (by kernel_rfl) (by simp) ?_
          refine AllReadyH.cons (o := _) rfl (fun K hK => ?_) AllReadyH.nil
          refine of_wanted (by rfl) ?_
          refine wp_store_mid 36 (.tmp 9) (.tmp 58) rfl u 0 ((ansP lx2 31 ⟨#[]⟩ 0).cells (.slice none 0 0)).toArray (by rfl) (by rfl) (by rw [List.size_toArray]; exact HU0.out.there (Nat.le_refl 43)) pk_size (all_oneCell_toArray fun v hv => List.all_eq_true.1 (PK.one (ansP lx2 31 ⟨#[]⟩ 0) rfl) v hv) ?_
          have t7 := setCells_turn u ((ansP lx2 31 ⟨#[]⟩ 0).cells (.slice none 0 0)) 0 w6
          have HU7 := Lib.hid (HU0.out.setCells (vs := (ansP lx2 31 ⟨#[]⟩ 0).cells (.slice none 0 0)) rfl)
          have HP7 := Lib.hid (HP6.out.far HUF.out t7)
          have HQ7 := Lib.hid (HQ6.out.turnW t7 (fun k => hqu k.symm))
          have HK07 := Lib.hid (HK06.out.turnW t7 (fun k => hku0 k.symm))
          have HK17 := Lib.hid (HK16.out.turnW t7 (fun k => hku1 k.symm))
          refine hK.out _ _ ⟨HP7.out.row.1.2 1 _ rfl, HQ7.out.1.range⟩ (fun hHeld4 => ?_)
          clear hK K t7 HU0 HP6 HQ6 hHeld3
          refine wpAnyH_take (i := 11) (oi := _) (v := .bool true) rfl (by kernel_rfl) (by kernel_rfl) (by kernel_rfl) (fun _ _ _ h => h) (Or.inl ⟨by rfl, ?_⟩) (by assumption) ?_
          · (intro w hSw; clear hSw; go_simp; (try with_reducible rfl))
          simp only [Act.put, List.getElem_toArray, List.getElem_cons_succ, List.getElem_cons_zero, List.setIfInBounds_toArray, List.set_cons_zero, List.set_cons_succ]
          refine wpAnyH_done (by kernel_rfl) ?_ _
          go_wp2_with fail
          go_meet
          exact ⟨u, rfl, rfl, HP7.out, HQ7.out, HU7.out, HUF.out, hqu, HK07.out, HK17.out⟩
      case rest =>
        obtain ⟨u3, rfl, rfl, hp, hx, hu, hf, hne3, k0, k1⟩ := hcut
        obtain ⟨w3, hw⟩ : ∃ j, j = wc := ⟨_, rfl⟩
        rw [← hw] at hp hx hu k0 k1 ⊢
        have HP3 := Lib.hid hp
        replace HX := Lib.hid hx
        have HU3 := Lib.hid hu
        have HF3 := Lib.hid hf
        replace HU1 := Lib.hid k0
        replace HU2 := Lib.hid k1
        clear hw hp hx hu hf HCALL HP2c k0 k1
        have x2 := HX.out.1.2 2 _ rfl
        have xf2 := HX.out.2 2 (show 2 < 43 by decide)
        have x3 := HX.out.1.2 3 _ rfl
        have xf3 := HX.out.2 3 (show 3 < 43 by decide)
        have x5 := HX.out.1.2 5 _ rfl
        have xf5 := HX.out.2 5 (show 5 < 43 by decide)
        go_upto_region 15 with (fail)
        have tx : Turn (fun k => k = xb) w3 (((w3.setCell ⟨xb, 2, none⟩ (.int .i64 1)).setCell ⟨xb, 3, none⟩ (.int .i64 2)).setCell ⟨xb, 5, none⟩ (.int .i64 6784)) := (((Turn.setCell (F := fun k => k = xb) w3 (p := ⟨xb, 2, none⟩) rfl (.int .i64 1)).and (Turn.setCell (F := fun k => k = xb) (w3.setCell ⟨xb, 2, none⟩ (.int .i64 1)) (p := ⟨xb, 3, none⟩) rfl (.int .i64 2))).and (Turn.setCell (F := fun k => k = xb) ((w3.setCell ⟨xb, 2, none⟩ (.int .i64 1)).setCell ⟨xb, 3, none⟩ (.int .i64 2)) (p := ⟨xb, 5, none⟩) rfl (.int .i64 6784)))
        have HXn := Lib.hid (show Row (((w3.setCell ⟨xb, 2, none⟩ (.int .i64 1)).setCell ⟨xb, 3, none⟩ (.int .i64 2)).setCell ⟨xb, 5, none⟩ (.int .i64 6784)) xb (lx3.cells (.slice none 0 0)) from (((HX.out.set (j := 2) (show 2 < 43 by decide)).set (j := 3) (show 3 < 43 by decide)).set (j := 5) (show 5 < 43 by decide)))
        obtain ⟨w3c, hwn⟩ : ∃ j, j = (((w3.setCell ⟨xb, 2, none⟩ (.int .i64 1)).setCell ⟨xb, 3, none⟩ (.int .i64 2)).setCell ⟨xb, 5, none⟩ (.int .i64 6784)) := ⟨_, rfl⟩
        rw [← hwn] at tx HXn ⊢
        have HP3c := Lib.hid (HP3.out.far HQF.out tx)
        replace HU1 := Lib.hid (HU1.out.turnW tx (fun k => hne1 k))
        replace HU2 := Lib.hid (HU2.out.turnW tx (fun k => hne2 k))
        replace HU3 := Lib.hid (HU3.out.turnW tx (fun k => hne3 k))
        clear HX
        have HX := Lib.hid HXn.out
        clear hwn tx HXn HP3
        clear x2 xf2 x3 xf3 x5 xf5
        have HCALL := Lib.hid (do_call (W := W) (pb := pb) (c := c) (d := d) (z := z) (x := x) (y := y) (t := newS 2896) HL4.out (small_ok (.inr (.inr rfl))) rfl)
        go_cut [11, 12] (fun va vb wx => ∃ u, va = .pointer (some ⟨u, 0, none⟩) ∧ vb = .bool true ∧ P20 W wx pb c d z x y s5 (newS 2896) ∧ Row wx xb (lx3.cells (.slice none 0 0)) ∧ Row wx u ((ansP lx3 35 ⟨#[]⟩ 0).cells (.slice none 0 0)) ∧ Far c d z pb x y W u ∧ ¬ u = xb ∧ Row wx u1 ((askP lx1).cells (.slice none 0 0)) ∧ Row wx u2 ((askP lx1).cells (.slice none 0 0)) ∧ Row wx u3 ((ansP lx2 31 ⟨#[]⟩ 0).cells (.slice none 0 0)))
        case first =>
          have hsS := And.intro (HP3c.out.row.1.2 1 _ rfl) HX.out.1.range
          refine wp_region_held_drew (S := fun w' => w'.cell? ⟨pb, 1, none⟩ = some (.pointer (some ⟨c, 0, none⟩)) ∧ w'.rangeAt xb 0 (lx3.cells (.slice none 0 0))) (by kernel_rfl) ?_ (fun hHeld => ?_)
          · exact hsS
          clear hsS
          refine wpAnyH_take (i := 0) (oi := _) (v := ?_) rfl (by kernel_rfl) (by kernel_rfl) (by kernel_rfl) (fun _ _ _ h => h) (Or.inl ⟨by rfl, ?_⟩) (by assumption) ?_
          rotate_left
          · (intro w hSw; obtain ⟨q1, -⟩ := hSw; go_simp; (try with_reducible rfl))
          simp only [Act.put, List.getElem_toArray, List.getElem_cons_zero, List.setIfInBounds_toArray, List.set_cons_zero, List.set_cons_succ]
          refine wpAnyH_take (i := 1) (oi := _) (v := ?_) rfl (by kernel_rfl) (by kernel_rfl) (by kernel_rfl) (fun _ _ _ h => h) (Or.inl ⟨by rfl, ?_⟩) (by assumption) ?_
          rotate_left
          · (intro w hSw; obtain ⟨q1, -⟩ := hSw; go_simp; (try with_reducible rfl))
          simp only [Act.put, List.getElem_toArray, List.getElem_cons_succ, List.getElem_cons_zero, List.setIfInBounds_toArray, List.set_cons_zero, List.set_cons_succ]
          refine wpAnyH_take (i := 2) (oi := _) (v := ?_) rfl (by kernel_rfl) (by kernel_rfl) (by kernel_rfl) (fun _ _ _ h => h) (Or.inl ⟨by rfl, ?_⟩) (by assumption) ?_
          rotate_left
          · (intro w hSw; obtain ⟨q1, -⟩ := hSw; go_simp; (try with_reducible rfl))
          simp only [Act.put, List.getElem_toArray, List.getElem_cons_succ, List.getElem_cons_zero, List.setIfInBounds_toArray, List.set_cons_zero, List.set_cons_succ]
          refine wpAnyH_take (i := 3) (oi := _) (v := ?_) rfl (by kernel_rfl) (by kernel_rfl) (by kernel_rfl) (fun _ _ _ h => h) (Or.inl ⟨by rfl, ?_⟩) (by assumption) ?_
          rotate_left
          · (intro w hSw; obtain ⟨q1, -⟩ := hSw; go_simp; (try with_reducible rfl))
          simp only [Act.put, List.getElem_toArray, List.getElem_cons_succ, List.getElem_cons_zero, List.setIfInBounds_toArray, List.set_cons_zero, List.set_cons_succ]
          refine wpAnyH_take (i := 4) (oi := _) (v := .agg (lx3.cells (.slice none 0 0)).toArray) rfl (by kernel_rfl) (by kernel_rfl) (by kernel_rfl) (fun _ _ _ h => h) (yieldsIf_load_mid (by rfl) 36 (.tmp 2) rfl xb 0 (by first | (go_simp; done) | rfl) (lx3.cells (.slice none 0 0)) _ (fun w hS => hS.2) Try.underlying36 rfl pk_size) (by assumption) ?_
          simp only [Act.put, List.getElem_toArray, List.getElem_cons_succ, List.getElem_cons_zero, List.setIfInBounds_toArray, List.set_cons_zero, List.set_cons_succ]
          have gdr := (Grow.refl w3c).drew
          refine wpAnyH_ready (rs := [5, 9]) (by kernel_rfl) (by simp) ?_
          refine AllReadyH.cons (o := _) rfl (fun K hK => ?_) (AllReadyH.cons (o := _) rfl (fun K hK => ?_) AllReadyH.nil)
          · refine of_wanted (by rfl) ?_
            refine wp_callTo (some 69) rfl 8 #[.pointer (some ⟨c, 0, none⟩), .agg (lx3.cells (.slice none 0 0)).toArray] (by kernel_rfl) _ (HCALL.out w3c.drew (HP3c.out.keep gdr)) (fun r w' k => ⟨_, k.1⟩) ?_
            rintro v w5 ⟨he, h5, t5⟩
            obtain rfl : v = .tuple #[.agg ((ansP lx3 35 ⟨#[]⟩ 0).cells (.slice none 0 0)).toArray, .bool true] := by injection he
            clear he
            have HP5 := Lib.hid ((HP3c.out.keep gdr).card h5 t5)
            have HQ5 := Lib.hid ((HX.out.keep gdr).turnW t5 (fun k => k.elim HQF.out.x HQF.out.c))
            have HK05 := Lib.hid ((HU1.out.keep gdr).turnW t5 (fun k => k.elim HF1.out.x HF1.out.c))
            have HK15 := Lib.hid ((HU2.out.keep gdr).turnW t5 (fun k => k.elim HF2.out.x HF2.out.c))
            have HK25 := Lib.hid ((HU3.out.keep gdr).turnW t5 (fun k => k.elim HF3.out.x HF3.out.c))
            refine hK.out _ _ ⟨HP5.out.row.1.2 1 _ rfl, HQ5.out.1.range⟩ (fun hHeld2 => ?_)
            clear hK K h5 t5 hHeld gdr
            simp only [Act.put, List.setIfInBounds_toArray, List.set_cons_zero, List.set_cons_succ]
            refine wpAnyH_take (i := 6) (oi := _) (v := .tuple #[.agg ((ansP lx3 35 ⟨#[]⟩ 0).cells (.slice none 0 0)).toArray, .bool true]) rfl (by kernel_rfl) (by kernel_rfl) (by kernel_rfl) (fun _ _ _ h => h) (Or.inl ⟨by rfl, ?_⟩) (by assumption) ?_
            · (intro w hSw; clear hSw; go_simp; (try with_reducible rfl))
            simp only [Act.put, List.getElem_toArray, List.getElem_cons_succ, List.getElem_cons_zero, List.setIfInBounds_toArray, List.set_cons_zero, List.set_cons_succ]
            refine wpAnyH_take (i := 7) (oi := _) (v := .agg ((ansP lx3 35 ⟨#[]⟩ 0).cells (.slice none 0 0)).toArray) rfl (by kernel_rfl) (by kernel_rfl) (by kernel_rfl) (fun _ _ _ h => h) (Or.inl ⟨by rfl, ?_⟩) (by assumption) ?_
            · (intro w hSw; clear hSw; go_simp; (try with_reducible rfl))
            simp only [Act.put, List.getElem_toArray, List.getElem_cons_succ, List.getElem_cons_zero, List.setIfInBounds_toArray, List.set_cons_zero, List.set_cons_succ]
            refine wpAnyH_take (i := 8) (oi := _) (v := .bool true) rfl (by kernel_rfl) (by kernel_rfl) (by kernel_rfl) (fun _ _ _ h => h) (Or.inl ⟨by rfl, ?_⟩) (by assumption) ?_
            · (intro w hSw; clear hSw; go_simp; (try with_reducible rfl))
            simp only [Act.put, List.getElem_toArray, List.getElem_cons_succ, List.getElem_cons_zero, List.setIfInBounds_toArray, List.set_cons_zero, List.set_cons_succ]
            have hu0 := Row.new w5 36 zP #[.int .i64 0, .int .i64 0, .int .i64 0, .int .i64 0, .int .i64 0, .int .i64 0, .int .i64 0, .string ⟨#[]⟩, .int .i64 0, .int .i64 0, .int .i64 0, .string ⟨#[]⟩, .string ⟨#[]⟩, .int .i64 0, .int .i64 0, .int .i64 0, .int .i64 0, .string ⟨#[]⟩, .int .i64 0, .int .i64 0, .int .i64 0, .int .i64 0, .string ⟨#[]⟩, .slice none 0 0, .int .i64 0, .int .i64 0, .int .i64 0, .int .i64 0, .int .i64 0, .int .i64 0, .int .i64 0, .int .i64 0, .int .i64 0, .int .i64 0, .int .i64 0, .int .i64 0, .int .i64 0, .int .i64 0, .int .i64 0, .int .i64 0, .int .i64 0, .int .i64 0, .int .i64 0] rfl
            have GA := (Grow.refl w5).alloc (.cells #[.int .i64 0, .int .i64 0, .int .i64 0, .int .i64 0, .int .i64 0, .int .i64 0, .int .i64 0, .string ⟨#[]⟩, .int .i64 0, .int .i64 0, .int .i64 0, .string ⟨#[]⟩, .string ⟨#[]⟩, .int .i64 0, .int .i64 0, .int .i64 0, .int .i64 0, .string ⟨#[]⟩, .int .i64 0, .int .i64 0, .int .i64 0, .int .i64 0, .string ⟨#[]⟩, .slice none 0 0, .int .i64 0, .int .i64 0, .int .i64 0, .int .i64 0, .int .i64 0, .int .i64 0, .int .i64 0, .int .i64 0, .int .i64 0, .int .i64 0, .int .i64 0, .int .i64 0, .int .i64 0, .int .i64 0, .int .i64 0, .int .i64 0, .int .i64 0, .int .i64 0, .int .i64 0] 36)
            obtain ⟨w6, hw6⟩ : ∃ j, j = w5.alloc (.cells #[.int .i64 0, .int .i64 0, .int .i64 0, .int .i64 0, .int .i64 0, .int .i64 0, .int .i64 0, .string ⟨#[]⟩, .int .i64 0, .int .i64 0, .int .i64 0, .string ⟨#[]⟩, .string ⟨#[]⟩, .int .i64 0, .int .i64 0, .int .i64 0, .int .i64 0, .string ⟨#[]⟩, .int .i64 0, .int .i64 0, .int .i64 0, .int .i64 0, .string ⟨#[]⟩, .slice none 0 0, .int .i64 0, .int .i64 0, .int .i64 0, .int .i64 0, .int .i64 0, .int .i64 0, .int .i64 0, .int .i64 0, .int .i64 0, .int .i64 0, .int .i64 0, .int .i64 0, .int .i64 0, .int .i64 0, .int .i64 0, .int .i64 0, .int .i64 0, .int .i64 0, .int .i64 0] 36) := ⟨_, rfl⟩
            obtain ⟨u, hu⟩ : ∃ j, j = w5.heap.size := ⟨_, rfl⟩
            rw [← hw6] at hu0 GA
            rw [← hu] at hu0
            have HU0 := Lib.hid hu0
            have HP6 := Lib.hid (HP5.out.keep GA)
            have HQ6 := Lib.hid (HQ5.out.keep GA)
            have HUF := Lib.hid (far20 HP5.out (Nat.le_of_eq hu.symm))
            have hqu : ¬ u = xb := by have := HQ5.out.1.1; omega
            have HK06 := Lib.hid (HK05.out.keep GA)
            have hku0 : ¬ u = u1 := by have := HK05.out.1.1; omega
            have HK16 := Lib.hid (HK15.out.keep GA)
            have hku1 : ¬ u = u2 := by have := HK15.out.1.1; omega
            have HK26 := Lib.hid (HK25.out.keep GA)
            have hku2 : ¬ u = u3 := by have := HK25.out.1.1; omega
            refine wpAnyH_ready (rs := [9]) (by kernel_rfl) (by simp) ?_
            refine AllReadyH.cons (o := _) rfl (fun K hK => ?_) AllReadyH.nil
            refine of_wanted (by rfl) ?_
            refine wp_runTo (some 11) rfl (.pointer (some ⟨u, 0, none⟩)) w6 (by rw [hw6, hu]; kernel_rfl) ?_
            refine hK.out _ _ ⟨HP6.out.row.1.2 1 _ rfl, HQ6.out.1.range⟩ (fun hHeld3 => ?_)
            clear hK K hu0 hw6 hu GA HP5 HQ5 hHeld2
            simp only [Act.put, List.setIfInBounds_toArray, List.set_cons_zero, List.set_cons_succ]
            refine wpAnyH_ready (rs := [10]) (by kernel_rfl) (by simp) ?_
            refine AllReadyH.cons (o := _) rfl (fun K hK => ?_) AllReadyH.nil
            refine of_wanted (by rfl) ?_
            refine wp_store_mid 36 (.tmp 11) (.tmp 70) rfl u 0 ((ansP lx3 35 ⟨#[]⟩ 0).cells (.slice none 0 0)).toArray (by rfl) (by rfl) (by rw [List.size_toArray]; exact HU0.out.there (Nat.le_refl 43)) pk_size (all_oneCell_toArray fun v hv => List.all_eq_true.1 (PK.one (ansP lx3 35 ⟨#[]⟩ 0) rfl) v hv) ?_
            have t7 := setCells_turn u ((ansP lx3 35 ⟨#[]⟩ 0).cells (.slice none 0 0)) 0 w6
            have HU7 := Lib.hid (HU0.out.setCells (vs := (ansP lx3 35 ⟨#[]⟩ 0).cells (.slice none 0 0)) rfl)
            have HP7 := Lib.hid (HP6.out.far HUF.out t7)
            have HQ7 := Lib.hid (HQ6.out.turnW t7 (fun k => hqu k.symm))
            have HK07 := Lib.hid (HK06.out.turnW t7 (fun k => hku0 k.symm))
            have HK17 := Lib.hid (HK16.out.turnW t7 (fun k => hku1 k.symm))
            have HK27 := Lib.hid (HK26.out.turnW t7 (fun k => hku2 k.symm))
            refine hK.out _ _ ⟨HP7.out.row.1.2 1 _ rfl, HQ7.out.1.range⟩ (fun hHeld4 => ?_)
            clear hK K t7 HU0 HP6 HQ6 hHeld3
            refine wpAnyH_take (i := 11) (oi := _) (v := .bool true) rfl (by kernel_rfl) (by kernel_rfl) (by kernel_rfl) (fun _ _ _ h => h) (Or.inl ⟨by rfl, ?_⟩) (by assumption) ?_
            · (intro w hSw; clear hSw; go_simp; (try with_reducible rfl))
            simp only [Act.put, List.getElem_toArray, List.getElem_cons_succ, List.getElem_cons_zero, List.setIfInBounds_toArray, List.set_cons_zero, List.set_cons_succ]
            refine wpAnyH_done (by kernel_rfl) ?_ _
            go_wp2_with fail
            go_meet
            exact ⟨u, rfl, rfl, HP7.out, HQ7.out, HU7.out, HUF.out, hqu, HK07.out, HK17.out, HK27.out⟩
          · have hu0 := Row.new w3c.drew 36 zP #[.int .i64 0, .int .i64 0, .int .i64 0, .int .i64 0, .int .i64 0, .int .i64 0, .int .i64 0, .string ⟨#[]⟩, .int .i64 0, .int .i64 0, .int .i64 0, .string ⟨#[]⟩, .string ⟨#[]⟩, .int .i64 0, .int .i64 0, .int .i64 0, .int .i64 0, .string ⟨#[]⟩, .int .i64 0, .int .i64 0, .int .i64 0, .int .i64 0, .string ⟨#[]⟩, .slice none 0 0, .int .i64 0, .int .i64 0, .int .i64 0, .int .i64 0, .int .i64 0, .int .i64 0, .int .i64 0, .int .i64 0, .int .i64 0, .int .i64 0, .int .i64 0, .int .i64 0, .int .i64 0, .int .i64 0, .int .i64 0, .int .i64 0, .int .i64 0, .int .i64 0, .int .i64 0] rfl
            have GA := (Grow.refl w3c.drew).alloc (.cells #[.int .i64 0, .int .i64 0, .int .i64 0, .int .i64 0, .int .i64 0, .int .i64 0, .int .i64 0, .string ⟨#[]⟩, .int .i64 0, .int .i64 0, .int .i64 0, .string ⟨#[]⟩, .string ⟨#[]⟩, .int .i64 0, .int .i64 0, .int .i64 0, .int .i64 0, .string ⟨#[]⟩, .int .i64 0, .int .i64 0, .int .i64 0, .int .i64 0, .string ⟨#[]⟩, .slice none 0 0, .int .i64 0, .int .i64 0, .int .i64 0, .int .i64 0, .int .i64 0, .int .i64 0, .int .i64 0, .int .i64 0, .int .i64 0, .int .i64 0, .int .i64 0, .int .i64 0, .int .i64 0, .int .i64 0, .int .i64 0, .int .i64 0, .int .i64 0, .int .i64 0, .int .i64 0] 36)
            obtain ⟨w5, hw5⟩ : ∃ j, j = w3c.drew.alloc (.cells #[.int .i64 0, .int .i64 0, .int .i64 0, .int .i64 0, .int .i64 0, .int .i64 0, .int .i64 0, .string ⟨#[]⟩, .int .i64 0, .int .i64 0, .int .i64 0, .string ⟨#[]⟩, .string ⟨#[]⟩, .int .i64 0, .int .i64 0, .int .i64 0, .int .i64 0, .string ⟨#[]⟩, .int .i64 0, .int .i64 0, .int .i64 0, .int .i64 0, .string ⟨#[]⟩, .slice none 0 0, .int .i64 0, .int .i64 0, .int .i64 0, .int .i64 0, .int .i64 0, .int .i64 0, .int .i64 0, .int .i64 0, .int .i64 0, .int .i64 0, .int .i64 0, .int .i64 0, .int .i64 0, .int .i64 0, .int .i64 0, .int .i64 0, .int .i64 0, .int .i64 0, .int .i64 0] 36) := ⟨_, rfl⟩
            obtain ⟨u, hu⟩ : ∃ j, j = w3c.drew.heap.size := ⟨_, rfl⟩
            rw [← hw5] at hu0 GA
            rw [← hu] at hu0
            have HP5 := Lib.hid (HP3c.out.keep (gdr.trans GA))
            have HQ5 := Lib.hid (HX.out.keep (gdr.trans GA))
            have HUF := Lib.hid (far20 (HP3c.out.keep gdr) (Nat.le_of_eq hu.symm))
            have hqu : ¬ u = xb := by have := (HX.out.keep gdr).1.1; omega
            have HK05 := Lib.hid (HU1.out.keep (gdr.trans GA))
            have hku0 : ¬ u = u1 := by have := (HU1.out.keep gdr).1.1; omega
            have HK15 := Lib.hid (HU2.out.keep (gdr.trans GA))
            have hku1 : ¬ u = u2 := by have := (HU2.out.keep gdr).1.1; omega
            have HK25 := Lib.hid (HU3.out.keep (gdr.trans GA))
            have hku2 : ¬ u = u3 := by have := (HU3.out.keep gdr).1.1; omega
            refine of_wanted (by rfl) ?_
            refine wp_runTo (some 11) rfl (.pointer (some ⟨u, 0, none⟩)) w5 (by rw [hw5, hu]; kernel_rfl) ?_
            refine hK.out _ _ ⟨HP5.out.row.1.2 1 _ rfl, HQ5.out.1.range⟩ (fun hHeld2 => ?_)
            clear hK K hw5 hu GA hHeld gdr
            simp only [Act.put, List.setIfInBounds_toArray, List.set_cons_zero, List.set_cons_succ]
            refine wpAnyH_ready (rs := [5]) (by kernel_rfl) (by simp) ?_
            refine AllReadyH.cons (o := _) rfl (fun K hK => ?_) AllReadyH.nil
            refine of_wanted (by rfl) ?_
            refine wp_callTo (some 69) rfl 8 #[.pointer (some ⟨c, 0, none⟩), .agg (lx3.cells (.slice none 0 0)).toArray] (by kernel_rfl) _ (HCALL.out w5 HP5.out) (fun r w' k => ⟨_, k.1⟩) ?_
            rintro v w6 ⟨he, h5, t5⟩
            obtain rfl : v = .tuple #[.agg ((ansP lx3 35 ⟨#[]⟩ 0).cells (.slice none 0 0)).toArray, .bool true] := by injection he
            clear he
            have HP6 := Lib.hid (HP5.out.card h5 t5)
            have HQ6 := Lib.hid (HQ5.out.turnW t5 (fun k => k.elim HQF.out.x HQF.out.c))
            have HU0 := Lib.hid (hu0.turnW t5 (fun k => k.elim HUF.out.x HUF.out.c))
            have HK06 := Lib.hid (HK05.out.turnW t5 (fun k => k.elim HF1.out.x HF1.out.c))
            have HK16 := Lib.hid (HK15.out.turnW t5 (fun k => k.elim HF2.out.x HF2.out.c))
            have HK26 := Lib.hid (HK25.out.turnW t5 (fun k => k.elim HF3.out.x HF3.out.c))
            refine hK.out _ _ ⟨HP6.out.row.1.2 1 _ rfl, HQ6.out.1.range⟩ (fun hHeld3 => ?_)
            clear hK K h5 t5 hu0 HP5 HQ5 hHeld2
            simp only [Act.put, List.setIfInBounds_toArray, List.set_cons_zero, List.set_cons_succ]
            refine wpAnyH_take (i := 6) (oi := _) (v := .tuple #[.agg ((ansP lx3 35 ⟨#[]⟩ 0).cells (.slice none 0 0)).toArray, .bool true]) rfl (by kernel_rfl) (by kernel_rfl) (by kernel_rfl) (fun _ _ _ h => h) (Or.inl ⟨by rfl, ?_⟩) (by assumption) ?_
            · (intro w hSw; clear hSw; go_simp; (try with_reducible rfl))
            simp only [Act.put, List.getElem_toArray, List.getElem_cons_succ, List.getElem_cons_zero, List.setIfInBounds_toArray, List.set_cons_zero, List.set_cons_succ]
            refine wpAnyH_take (i := 7) (oi := _) (v := .agg ((ansP lx3 35 ⟨#[]⟩ 0).cells (.slice none 0 0)).toArray) rfl (by kernel_rfl) (by kernel_rfl) (by kernel_rfl) (fun _ _ _ h => h) (Or.inl ⟨by rfl, ?_⟩) (by assumption) ?_
            · (intro w hSw; clear hSw; go_simp; (try with_reducible rfl))
            simp only [Act.put, List.getElem_toArray, List.getElem_cons_succ, List.getElem_cons_zero, List.setIfInBounds_toArray, List.set_cons_zero, List.set_cons_succ]
            refine wpAnyH_take (i := 8) (oi := _) (v := .bool true) rfl (by kernel_rfl) (by kernel_rfl) (by kernel_rfl) (fun _ _ _ h => h) (Or.inl ⟨by rfl, ?_⟩) (by assumption) ?_
            · (intro w hSw; clear hSw; go_simp; (try with_reducible rfl))
            simp only [Act.put, List.getElem_toArray, List.getElem_cons_succ, List.getElem_cons_zero, List.setIfInBounds_toArray, List.set_cons_zero, List.set_cons_succ]
            refine wpAnyH_ready (rs := [10]) (by kernel_rfl) (by simp) ?_
            refine AllReadyH.cons (o := _) rfl (fun K hK => ?_) AllReadyH.nil
            refine of_wanted (by rfl) ?_
            refine wp_store_mid 36 (.tmp 11) (.tmp 70) rfl u 0 ((ansP lx3 35 ⟨#[]⟩ 0).cells (.slice none 0 0)).toArray (by rfl) (by rfl) (by rw [List.size_toArray]; exact HU0.out.there (Nat.le_refl 43)) pk_size (all_oneCell_toArray fun v hv => List.all_eq_true.1 (PK.one (ansP lx3 35 ⟨#[]⟩ 0) rfl) v hv) ?_
            have t7 := setCells_turn u ((ansP lx3 35 ⟨#[]⟩ 0).cells (.slice none 0 0)) 0 w6
            have HU7 := Lib.hid (HU0.out.setCells (vs := (ansP lx3 35 ⟨#[]⟩ 0).cells (.slice none 0 0)) rfl)
            have HP7 := Lib.hid (HP6.out.far HUF.out t7)
            have HQ7 := Lib.hid (HQ6.out.turnW t7 (fun k => hqu k.symm))
            have HK07 := Lib.hid (HK06.out.turnW t7 (fun k => hku0 k.symm))
            have HK17 := Lib.hid (HK16.out.turnW t7 (fun k => hku1 k.symm))
            have HK27 := Lib.hid (HK26.out.turnW t7 (fun k => hku2 k.symm))
            refine hK.out _ _ ⟨HP7.out.row.1.2 1 _ rfl, HQ7.out.1.range⟩ (fun hHeld4 => ?_)
            clear hK K t7 HU0 HP6 HQ6 hHeld3
            refine wpAnyH_take (i := 11) (oi := _) (v := .bool true) rfl (by kernel_rfl) (by kernel_rfl) (by kernel_rfl) (fun _ _ _ h => h) (Or.inl ⟨by rfl, ?_⟩) (by assumption) ?_
            · (intro w hSw; clear hSw; go_simp; (try with_reducible rfl))
            simp only [Act.put, List.getElem_toArray, List.getElem_cons_succ, List.getElem_cons_zero, List.setIfInBounds_toArray, List.set_cons_zero, List.set_cons_succ]
            refine wpAnyH_done (by kernel_rfl) ?_ _
            go_wp2_with fail
            go_meet
            exact ⟨u, rfl, rfl, HP7.out, HQ7.out, HU7.out, HUF.out, hqu, HK07.out, HK17.out, HK27.out⟩
        case rest =>
          obtain ⟨u4, rfl, rfl, hp, hx, hu, hf, hne4, k0, k1, k2⟩ := hcut
          obtain ⟨w4, hw⟩ : ∃ j, j = wc := ⟨_, rfl⟩
          rw [← hw] at hp hx hu k0 k1 k2 ⊢
          have HP4 := Lib.hid hp
          replace HX := Lib.hid hx
          have HU4 := Lib.hid hu
          have HF4 := Lib.hid hf
          replace HU1 := Lib.hid k0
          replace HU2 := Lib.hid k1
          replace HU3 := Lib.hid k2
          clear hw hp hx hu hf HCALL HP3c k0 k1 k2
          have a1 : w4.cell? ⟨u1, 19, none⟩ = some (.int .i64 0) := HU1.out.1.2 19 _ rfl
          have a2 : w4.cell? ⟨u2, 19, none⟩ = some (.int .i64 0) := HU2.out.1.2 19 _ rfl
          have a3 : w4.cell? ⟨u3, 19, none⟩ = some (.int .i64 31) := HU3.out.1.2 19 _ rfl
          have a4 : w4.cell? ⟨u4, 19, none⟩ = some (.int .i64 35) := HU4.out.1.2 19 _ rfl
          have p1 := HP4.out.row.1.2 1 _ rfl
          go_wp2_with fail
          refine (card_epoch HP4.out.cd 2).mono ?_
          rintro r w4b ⟨rfl, rfl⟩
          rw [if_pos (show isB 2 = true from rfl), HL5.out]
          go_wp2_with fail
          go_ret
          exact ⟨rfl, HP4.out.grow⟩
end Go.Proofs.Ytdlcpfgogjcciaa
