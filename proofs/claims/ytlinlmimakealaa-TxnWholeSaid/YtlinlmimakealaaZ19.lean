/- slices.Clone at patches; Patches, Drop, Commit of a transaction. (*commons/commonsref09.Txn).Store: one patch more, or none. commonsref09.Txn.Load: byte by byte. Commit of the document's transaction. No statement of the seat is proved here. -/
import Derived.Test.YtlinlmimakealaaZ18
import Derived.Test.YtlinlmimakealaaZ12
namespace Go.Proofs.Ytlinlmimakealaa
open Go.RowKit

theorem eq_nilP (a : Option Addr) (l c : Nat) (w : World) : (binOp .eql 34 (.slice a l c) (.slice none 0 0)).run Try.prog w = .ok (.bool a.isNone) w := run_eql_slice_nil w 34 37 a l c Try.underlying34
theorem clone_pats {w : World} {A : Option Addr} {c : Nat} {L : List PT} (hr : RP w A L.length L) (hl : L.length ≤ 100000) :
    Calls Try.prog 31 #[.slice A L.length c] w fun e w' => ∃ A' c', e = .returned (.slice A' L.length c') ∧ OP w' w.heap.size (.slice A' L.length c') L ∧ Grow w w' := by
  rcases A with _ | a
  · have h0 : L = [] := by
      rcases Nat.eq_zero_or_pos L.length with h | h
      · exact List.eq_nil_of_length_eq_zero h
      · obtain ⟨_, _, h, _⟩ := hr.2.2.2 h; cases h
    subst h0
    have hq := fun (w : World) => eq_nilP none 0 c w
    go_enter Try.func31, Try.ntmps31
    go_wp2_with fail
    go_ret
    exact ⟨none, 0, rfl, OP.nil _ _, Grow.refl _⟩
  · have hq := fun (w : World) => eq_nilP (some a) L.length c w
    have HR := Lib.hid (show RP (w.alloc (.cells #[] 37)) (some a) L.length L from hr.keep ((Grow.refl w).alloc _))
    clear hr
    go_enter Try.func31, Try.ntmps31
    go_wp2_with (at_builtin; go_loud (refine wpList_appP rfl (.tmp 5) (.tmp 6) rfl w.heap.size _ [] rfl (World.ownsRow_made w #[] 0 (Nat.le_refl _) (by unfold maxLen; omega) rfl) _ (some a) c L L.length rfl rfl HR.out.2.2 (by simp; omega) (by simp) ?_; intro v1 w1 q1 q2 q3; clear q3; rw [List.nil_append] at q1))
    obtain ⟨A', c', rfl, -⟩ := q1.form
    go_ret
    exact ⟨A', c', rfl, q1, Below.grown ((Below.refl _ _).alloc (Nat.le_refl _) _) q2 (by simp) (fun k hk => by injection hk with hk; subst hk; exact Nat.le_refl _)⟩
theorem tx_patches {w : World} {base t l : Nat} {x : MB} {s : MS} {L : List PT} {v : Value} (h : TX w base t l x s L v) :
    Calls Try.prog 10 #[.pointer (some ⟨t, 0, none⟩)] w fun e w' => ∃ A c, e = .returned (.slice A L.length c) ∧ OP w' w.heap.size (.slice A L.length c) L ∧ Grow w w' := by
  have hfew := h.held.few
  obtain ⟨Av, cv, rfl, -, rx⟩ := h.row.rp (by omega)
  have c2 := h.blk.1.2 2 _ rfl
  have R := Lib.hid rx
  clear rx h
  go_enter Try.func10, Try.ntmps10
  go_wp2_with fail
  refine (clone_pats R.out (by omega)).mono ?_
  rintro e w1 ⟨A1, c1, rfl, o1, g1⟩
  have O1 := Lib.hid o1
  have G1 := Lib.hid g1
  clear o1 g1
  go_wp2_with fail
  go_ret
  exact ⟨A1, c1, rfl, O1.out, G1.out⟩
theorem tx_drop {w : World} {base t l : Nat} {x : MB} {s : MS} {L : List PT} {v : Value} (h : TX w base t l x s L v) :
    Calls Try.prog 25 #[.pointer (some ⟨t, 0, none⟩)] w fun e w' => e = .returned (.tuple #[]) ∧ TX w' base t l x s [] (.slice none 0 0) ∧ Turn (fun k => k = t) w w' := by
  have H := Lib.hid h
  have f := h.blk.2 2 (by simp)
  have d := h.blk.1.2 2 _ rfl
  clear h
  go_enter Try.func25, Try.ntmps25
  go_wp2_with fail
  go_end0
  exact ⟨rfl, H.out.put (OP.nil _ _) (Turn.refl _ _) (.inr fun g hg => by cases hg) Held.nil, Turn.setCell (F := fun k => k = t) _ (p := ⟨t, 2, none⟩) rfl _⟩
set_option maxHeartbeats 2000000 in
theorem tx_commit {w : World} {base t l : Nat} {x : MB} {s : MS} {L : List PT} {v : Value} (h : TX w base t l x s L v) :
    Calls Try.prog 15 #[.pointer (some ⟨t, 0, none⟩)] w fun e w' => e = .returned (.int .i64 (cmE s L)) ∧ ∃ v', TX w' base t l x (cmS s L) (cmL s L) v' ∧ Turn (fun k => x.F k ∨ k = t) w w' ∧ (v'.ownBlock = none ∨ v' = v) := by
  obtain ⟨Av, cv, rfl, hcv⟩ := h.row.form
  have H := Lib.hid h
  have c1 := h.blk.1.2 1 _ rfl
  have c2 := h.blk.1.2 2 _ rfl
  have hfew := h.held.few
  obtain ⟨Ax, cx, ex, -, rx⟩ := h.row.rp (by omega)
  injection ex with ex1 ex2 ex3
  subst ex1
  have R := Lib.hid rx
  clear rx ex2 ex3 hcv h
  by_cases h0 : L.length = 0
  · have HCE := Lib.hid (show cmE s L = 0 by unfold cmE; rw [if_pos h0])
    have HCS := Lib.hid (show cmS s L = s by unfold cmS; rw [if_pos h0])
    have HCL := Lib.hid (show cmL s L = L by unfold cmL; rw [if_pos h0]; exact (List.eq_nil_of_length_eq_zero h0).symm)
    rw [h0] at c2
    go_enter Try.func15, Try.ntmps15
    go_wp2_with fail
    go_ret
    exact ⟨by rw [HCE.out]; rfl, _, by rw [HCS.out, HCL.out]; exact H.out, Turn.refl _ _, .inr rfl⟩
  · have z0 : ¬ (L.length : Int) = 0 := by omega
    have z1 : decide ((L.length : Int) = 0) = false := decide_eq_false z0
    obtain ⟨E, hE⟩ : ∃ E, E = apE s.S L := ⟨_, rfl⟩
    have HE := Lib.hid hE
    obtain ⟨N, hN⟩ : ∃ N, N = L.length := ⟨_, rfl⟩
    rw [← hN] at R c2 z0 z1
    have HN := Lib.hid hN
    clear hE hN
    go_enter Try.func15, Try.ntmps15
    go_wp2_with fail
    go_region_held3 (fun w' => w'.cell? ⟨t, 1, none⟩ = some (.pointer (some ⟨l, 0, none⟩)) ∧ w'.cell? ⟨t, 2, none⟩ = some (.slice Av N cv)) (first | exact ⟨c1, c2⟩ | exact hsA) ((first
      | (go_at_call 37; go_loud (refine (pl_append (H.out.lg.keep ?_) (R.out.keep ?_) H.out.held.wide).mono ?_; (repeat (first | exact Grow.refl _ | refine Grow.drew ?_ | refine Grow.drewN ?_ _)); rintro e w5 ⟨rfl, h5, t5'⟩; have t5 : Turn x.F w w5 := (Turn.grow (show Grow w _ by (repeat (first | exact Grow.refl _ | refine Grow.drew ?_ | refine Grow.drewN ?_ _))) x.F).and t5'; have hsA := And.intro (t5.cell' c1 H.out.xt) (t5.cell' c2 H.out.xt); rw [← HE.out]; clear t5'))))
    all_goals
      have H5 := Lib.hid (H.out.mem h5 t5)
      have T5 := Lib.hid t5
      have k1 := hsA.1
      clear h5 t5 hsA c1 c2
      by_cases hE0 : E = 0
      · have HCE := Lib.hid (show cmE s L = 0 by unfold cmE; rw [if_neg h0, ← HE.out, hE0])
        have HCS := Lib.hid (show cmS s L = (s.append L).redo by unfold cmS; rw [if_neg h0, if_pos (by rw [← HE.out, hE0])])
        have HCL := Lib.hid (show cmL s L = [] by unfold cmL; rw [if_neg h0, if_pos (by rw [← HE.out, hE0])])
        subst hE0
        go_wp2_with fail
        refine (pl_redo H5.out.lg).mono ?_
        rintro e w7 ⟨rfl, h7, t7⟩
        have H7 := Lib.hid (H5.out.mem h7 t7)
        have T7 := Lib.hid ((T5.out.and t7).mono (G := fun k => x.F k ∨ k = t) fun i q => .inl q)
        clear h7 t7 k1
        go_wp2_with fail
        refine (tx_drop H7.out).mono ?_
        rintro e w8 ⟨rfl, h8, t8⟩
        have H8 := Lib.hid h8
        have T8 := Lib.hid (T7.out.and (t8.mono (G := fun k => x.F k ∨ k = t) fun i q => .inr q))
        clear h8 t8
        go_wp2_with fail
        go_ret
        exact ⟨by rw [HCE.out]; rfl, _, by rw [HCS.out, HCL.out]; exact H8.out, T8.out, .inl rfl⟩
      · have HCE := Lib.hid (show cmE s L = E by unfold cmE; rw [if_neg h0, ← HE.out])
        have HCS := Lib.hid (show cmS s L = s.append L by unfold cmS; rw [if_neg h0, if_neg (by rw [← HE.out]; exact hE0)]; rw [MS.append, if_neg (by rw [← HE.out]; exact hE0)])
        have HCL := Lib.hid (show cmL s L = L by unfold cmL; rw [if_neg h0, if_neg (by rw [← HE.out]; exact hE0)])
        have z2 : decide (E = 0) = false := decide_eq_false hE0
        go_wp2_with fail
        go_ret
        exact ⟨by rw [HCE.out]; rfl, _, by rw [HCS.out, HCL.out]; exact H5.out, T5.out.mono fun i q => .inl q, .inr rfl⟩
end Go.Proofs.Ytlinlmimakealaa

namespace Go.Proofs.Ytlinlmimakealaa
open Go.RowKit

set_option maxHeartbeats 4000000 in
set_option maxRecDepth 4000 in
theorem rx_store {w : World} {base t l : Nat} {x : MB} {s : MS} {L : List PT} {v : Value} (h : RX w base t l x s L v) (hb : base ≤ w.heap.size) {B : Option Addr} {m c : Nat} {bs : List UInt8} (hs : Sl w B m bs) (hB : 0 < m → ∀ p, B = some p → v.ownBlock ≠ some p.block ∧ p.block ≠ t) (a : Int) :
    Calls Try.prog 48 #[.pointer (some ⟨t, 0, none⟩), .int .i64 a, .slice B m c] w fun e w' => e = .returned (.int .i64 (errV (stO L a m))) ∧ ∃ v', RX w' base t l x s (stL L a bs) v' ∧ Turn (fun i => i = t ∨ v.ownBlock = some i) w w' ∧ (v'.ownBlock = v.ownBlock ∨ ∃ g, v'.ownBlock = some g ∧ w.heap.size ≤ g) := by
  obtain ⟨Av, cv, rfl, hcv⟩ := h.row.form
  have HELD := Lib.hid (h.held)
  have hmb := hs.1
  have H := Lib.hid h
  have HS0 := Lib.hid hs
  have HBB := Lib.hid hB
  have c2 := h.blk.1.2 2 _ rfl
  have c0 := h.blk.1.2 0 _ rfl
  have hfew := h.held.few
  have hm2 := hs.2.1
  clear h hs hB
  go_enter Try.func48, Try.ntmps48
  go_wp2_with fail
  refine (rm_within H.out.lg.1 a (m : Nat)).mono ?_
  rintro e w1 ⟨rfl, rfl⟩
  have H1 := H
  have HS := HS0
  have G1 := Lib.hid (Grow.refl w)
  have HB1 := Lib.hid hb
  have d2 := c2
  have d0 := (H1.out.blk.2 2 (by simp))
  rw [show (8 * 128 : Nat) = 1024 from rfl]
  cases hin : inW 1024 a (m : Int) with
  | false =>
    have HNO := Lib.hid (show L = stL L a bs by unfold stL stO; rw [hmb, hin]; simp)
    have HNE := Lib.hid (show stO L a m = false by unfold stO; rw [hin]; simp)
    clear hin
    go_wp2_with fail
    go_ret
    refine ⟨?_, _, HNO.out ▸ H1.out, G1.out.turnAnd (Turn.refl _ _), .inl rfl⟩
    rw [HNE.out]; rfl
  | true =>
    by_cases h256 : 256 < m
    · have z1 : decide (256 < m) = true := decide_eq_true h256
      have z2 : decide ((256 : Int) < (m : Int)) = true := decide_eq_true (by omega)
      have HNO := Lib.hid (show L = stL L a bs by unfold stL stO; rw [hmb, hin]; simp [Nat.not_le.2 h256])
      have HNE := Lib.hid (show stO L a m = false by unfold stO; rw [hin]; simp [Nat.not_le.2 h256])
      clear hin
      go_wp2_with fail
      go_ret
      refine ⟨?_, _, HNO.out ▸ H1.out, G1.out.turnAnd (Turn.refl _ _), .inl rfl⟩
      rw [HNE.out]; rfl
    · have z1 : decide (256 < m) = false := decide_eq_false h256
      have z2 : decide ((256 : Int) < (m : Int)) = false := decide_eq_false (by omega)
      by_cases h64 : L.length < 64
      · have z3 : decide (64 ≤ L.length) = false := decide_eq_false (by omega)
        have z4 : decide ((64 : Int) ≤ (L.length : Int)) = false := decide_eq_false (by omega)
        have z5 : ¬ (L.length : Int) = 64 := by omega
        have HSO := Lib.hid (show stO L a m = true by unfold stO; rw [hin]; simp [Nat.not_lt.1 h256, h64])
        have HSL := Lib.hid (show stL L a bs = L ++ [⟨a, ⟨bs.toArray⟩⟩] by unfold stL; rw [hmb, HSO.out]; rfl)
        have HELD := Lib.hid (show Held (L ++ [⟨a, ⟨bs.toArray⟩⟩]) by rw [← HSL.out]; exact H1.out.held.store a bs)
        have dA := ((Grow.refl w).alloc (.cells #[.int .i64 a, .string ⟨bs.toArray⟩] 37)).cell d2
        have conv_c := fun {w' : World} (hS : Sl w' B m bs) (c : Nat) => conv_s (c := c) hS
        clear hin
        go_wp2_with fail
        have HSS := HS.out
        refine wp_region_held_drew (S := fun w' => Sl w' B m bs) (by kernel_rfl) ?_ (fun hHeld => ?_)
        · exact HSS
        refine wpAnyH_take (i := 0) (oi := _) (v := ?_) rfl (by kernel_rfl) (by kernel_rfl) (by kernel_rfl) (fun _ _ _ h => h) (Or.inl ⟨by rfl, ?_⟩) (by assumption) ?_
        rotate_left
        · (intro w hSw; (try dsimp only at hSw); go_simp; (try with_reducible rfl))
        simp only [Act.put, List.setIfInBounds_toArray]
        refine wpAnyH_take (i := 1) (oi := _) (v := ?_) rfl (by kernel_rfl) (by kernel_rfl) (by kernel_rfl) (fun _ _ _ h => h) (Or.inl ⟨by rfl, ?_⟩) (by assumption) ?_
        rotate_left
        · (intro w hSw; (try dsimp only at hSw); go_simp; (try with_reducible rfl))
        simp only [Act.put]
        refine wpAnyH_take (i := 2) (oi := _) (v := ?_) rfl (by kernel_rfl) (by kernel_rfl) (by kernel_rfl) (fun _ _ _ h => h) (Or.inl ⟨by rfl, ?_⟩) (by assumption) ?_
        rotate_left
        · (intro w hSw; (try dsimp only at hSw); go_simp; (try with_reducible rfl))
        simp only [Act.put]
        refine wpAnyH_take (i := 3) (oi := _) (v := ?_) rfl (by kernel_rfl) (by kernel_rfl) (by kernel_rfl) (fun _ _ _ h => h) (Or.inl ⟨by rfl, ?_⟩) (by assumption) ?_
        rotate_left
        · (intro w hSw; (try dsimp only at hSw); go_simp; (try with_reducible rfl))
        simp only [Act.put]
        refine wpAnyH_take (i := 5) (oi := _) (v := ?_) rfl (by kernel_rfl) (by kernel_rfl) (by kernel_rfl) (fun _ _ _ h => h) (Or.inl ⟨by rfl, ?_⟩) (by assumption) ?_
        rotate_left
        · (intro w hSw; (try dsimp only at hSw); go_simp; (try with_reducible rfl))
        simp only [Act.put]
        refine wpAnyH_take (i := 6) (oi := _) (v := ?_) rfl (by kernel_rfl) (by kernel_rfl) (by kernel_rfl) (fun _ _ _ h => h) (Or.inl ⟨by rfl, ?_⟩) (by assumption) ?_
        rotate_left
        · (intro w hSw; (try dsimp only at hSw); go_simp; (try with_reducible rfl))
        simp only [Act.put]
        refine wpAnyH_take (i := 7) (oi := _) (v := .string ⟨bs.toArray⟩) rfl (by kernel_rfl) (by kernel_rfl) (by kernel_rfl) (fun _ _ _ h => h) (Or.inl ⟨by rfl, ?_⟩) (by assumption) ?_
        · (intro w hSw; (try dsimp only at hSw); have kc := conv_c hSw c; go_simp)
        simp only [Act.put]
        refine wpAnyH_take (i := 8) (oi := _) (v := ?_) rfl (by kernel_rfl) (by kernel_rfl) (by kernel_rfl) (fun _ _ _ h => h) (Or.inl ⟨by rfl, ?_⟩) (by assumption) ?_
        rotate_left
        · (intro w hSw; (try dsimp only at hSw); go_simp; (try with_reducible rfl))
        simp only [Act.put]
        refine wpAnyH_ready (rs := [4, 9]) (by kernel_rfl) (by simp) ?_
        refine AllReadyH.cons (o := _) rfl (fun K hK => ?_) (AllReadyH.cons (o := _) rfl (fun K hK => ?_) AllReadyH.nil)
        · go_simp
          refine hK.out _ _ (by assumption) (fun hHeld4 => ?_)
          clear hK K
          refine wpAnyH_ready (rs := [9]) (by kernel_rfl) (by simp) ?_
          refine AllReadyH.cons (o := _) rfl (fun K hK => ?_) AllReadyH.nil
          go_simp
          refine hK.out _ _ (Sl.keep (by assumption) ((Grow.refl _).alloc _)) (fun hHeld9 => ?_)
          clear hK K
          refine wpAnyH_ready (rs := [10]) (by kernel_rfl) (by simp) ?_
          refine AllReadyH.cons (o := _) rfl (fun K hK => ?_) AllReadyH.nil
          refine step_appP rfl (.tmp 35) (.tmp 40) rfl base _ L rfl ⟨a, ⟨bs.toArray⟩⟩ _ (some ⟨w.heap.size, 0, none⟩) (by first | rfl | simp) (Rd.new1 (w := w) _ (by (repeat (first | exact Grow.refl _ | refine Grow.drew ?_ | refine Grow.drewN ?_ _ | refine Grow.alloc ?_ _)))) (H1.out.row.keep (by (repeat (first | exact Grow.refl _ | refine Grow.drew ?_ | refine Grow.drewN ?_ _ | refine Grow.alloc ?_ _)))) (by have := H1.out.held.few; omega) (by have := HB1.out; first | omega | (simp; omega)) ?_
          intro v5 w5 q1 q2 q3
          obtain ⟨A5, k5, e5v, -⟩ := q1.form
          rw [show (L ++ [(⟨a, ⟨bs.toArray⟩⟩ : PT)]).length = L.length + 1 by simp] at e5v
          subst e5v
          have g5 : Turn (fun i => (Value.slice Av L.length cv).ownBlock = some i) w w5 := (Turn.grow (show Grow w _ by (repeat (first | exact Grow.refl _ | refine Grow.drew ?_ | refine Grow.drewN ?_ _ | refine Grow.alloc ?_ _))) _).and (Turn.grown q2 (fun _ h => h))
          have H5 := Lib.hid (H1.out.put q1 g5 (q3.imp id fun e g hg => by rw [e] at hg; injection hg with hg; have hz : w.heap.size ≤ g := (by have hg' : w.heap.size + 1 = g := (by first | exact hg | simpa using hg); omega); exact hz) HELD.out)
          have f5 := (H1.out.blk.turn g5 (fun q => (H1.out.vx t q).2.1 rfl)).2 2 (by simp)
          have d5 := (H1.out.blk.turn g5 (fun q => (H1.out.vx t q).2.1 rfl)).1.2 2 _ rfl
          have HS5 := HS.out.turn' g5 (fun h0 p hp q => (HBB.out h0 p hp).1 q)
          refine hK.out _ _ HS5 (fun hHeld5 => ?_)
          clear hK K
          refine wpAnyH_take (i := 11) (oi := _) (v := ?_) rfl (by kernel_rfl) (by kernel_rfl) (by kernel_rfl) (fun _ _ _ h => h) (Or.inl ⟨by rfl, ?_⟩) (by assumption) ?_
          rotate_left
          · (intro w hSw; (try dsimp only at hSw); go_simp; (try with_reducible rfl))
          simp only [Act.put]
          refine wpAnyH_take (i := 12) (oi := _) (v := ?_) rfl (by kernel_rfl) (by kernel_rfl) (by kernel_rfl) (fun _ _ _ h => h) (Or.inl ⟨by rfl, ?_⟩) (by assumption) ?_
          rotate_left
          · (intro w hSw; (try dsimp only at hSw); go_simp; (try with_reducible rfl))
          simp only [Act.put]
          refine wpAnyH_ready (rs := [13]) (by kernel_rfl) (by simp) ?_
          refine AllReadyH.cons (o := _) rfl (fun K hK => ?_) AllReadyH.nil
          go_simp
          refine hK.out _ _ (HS5.turn' (Turn.setCell (F := fun i => i = t) w5 (p := ⟨t, 2, none⟩) rfl _) (fun h0 p hp q => (HBB.out h0 p hp).2 q)) (fun hHeld6 => ?_)
          clear hK K
          refine wpAnyH_done (by kernel_rfl) ?_ _
          have T5 := Lib.hid (Turn.set (Turn.mono g5 (G := fun i => i = t ∨ (Value.slice Av L.length cv).ownBlock = some i) (fun i h => .inr h)) ⟨t, 2, none⟩ (.inl rfl) (.slice A5 (L.length + 1) k5))
          clear q2 f5 d5 HS5 q1
          go_wp2_with fail
          go_ret
          exact ⟨by rw [HSO.out]; rfl, _, by rw [HSL.out]; exact H5.out, G1.out.turnAnd T5.out, q3.imp id fun e => ⟨_, e, by have := G1.out.size; first | omega | (simp; done) | (simp; omega)⟩⟩
        · go_simp
          refine hK.out _ _ (Sl.keep (by assumption) ((Grow.refl _).alloc _)) (fun hHeld9 => ?_)
          clear hK K
          refine wpAnyH_ready (rs := [4]) (by kernel_rfl) (by simp) ?_
          refine AllReadyH.cons (o := _) rfl (fun K hK => ?_) AllReadyH.nil
          go_simp
          refine hK.out _ _ (by assumption) (fun hHeld4 => ?_)
          clear hK K
          refine wpAnyH_ready (rs := [10]) (by kernel_rfl) (by simp) ?_
          refine AllReadyH.cons (o := _) rfl (fun K hK => ?_) AllReadyH.nil
          refine step_appP rfl (.tmp 35) (.tmp 40) rfl base _ L rfl ⟨a, ⟨bs.toArray⟩⟩ _ (some ⟨w.heap.size, 0, none⟩) (by first | rfl | simp) (Rd.new1 (w := w) _ (by (repeat (first | exact Grow.refl _ | refine Grow.drew ?_ | refine Grow.drewN ?_ _ | refine Grow.alloc ?_ _)))) (H1.out.row.keep (by (repeat (first | exact Grow.refl _ | refine Grow.drew ?_ | refine Grow.drewN ?_ _ | refine Grow.alloc ?_ _)))) (by have := H1.out.held.few; omega) (by have := HB1.out; first | omega | (simp; omega)) ?_
          intro v5 w5 q1 q2 q3
          obtain ⟨A5, k5, e5v, -⟩ := q1.form
          rw [show (L ++ [(⟨a, ⟨bs.toArray⟩⟩ : PT)]).length = L.length + 1 by simp] at e5v
          subst e5v
          have g5 : Turn (fun i => (Value.slice Av L.length cv).ownBlock = some i) w w5 := (Turn.grow (show Grow w _ by (repeat (first | exact Grow.refl _ | refine Grow.drew ?_ | refine Grow.drewN ?_ _ | refine Grow.alloc ?_ _))) _).and (Turn.grown q2 (fun _ h => h))
          have H5 := Lib.hid (H1.out.put q1 g5 (q3.imp id fun e g hg => by rw [e] at hg; injection hg with hg; have hz : w.heap.size ≤ g := (by have hg' : w.heap.size + 1 = g := (by first | exact hg | simpa using hg); omega); exact hz) HELD.out)
          have f5 := (H1.out.blk.turn g5 (fun q => (H1.out.vx t q).2.1 rfl)).2 2 (by simp)
          have d5 := (H1.out.blk.turn g5 (fun q => (H1.out.vx t q).2.1 rfl)).1.2 2 _ rfl
          have HS5 := HS.out.turn' g5 (fun h0 p hp q => (HBB.out h0 p hp).1 q)
          refine hK.out _ _ HS5 (fun hHeld5 => ?_)
          clear hK K
          refine wpAnyH_take (i := 11) (oi := _) (v := ?_) rfl (by kernel_rfl) (by kernel_rfl) (by kernel_rfl) (fun _ _ _ h => h) (Or.inl ⟨by rfl, ?_⟩) (by assumption) ?_
          rotate_left
          · (intro w hSw; (try dsimp only at hSw); go_simp; (try with_reducible rfl))
          simp only [Act.put]
          refine wpAnyH_take (i := 12) (oi := _) (v := ?_) rfl (by kernel_rfl) (by kernel_rfl) (by kernel_rfl) (fun _ _ _ h => h) (Or.inl ⟨by rfl, ?_⟩) (by assumption) ?_
          rotate_left
          · (intro w hSw; (try dsimp only at hSw); go_simp; (try with_reducible rfl))
          simp only [Act.put]
          refine wpAnyH_ready (rs := [13]) (by kernel_rfl) (by simp) ?_
          refine AllReadyH.cons (o := _) rfl (fun K hK => ?_) AllReadyH.nil
          go_simp
          refine hK.out _ _ (HS5.turn' (Turn.setCell (F := fun i => i = t) w5 (p := ⟨t, 2, none⟩) rfl _) (fun h0 p hp q => (HBB.out h0 p hp).2 q)) (fun hHeld6 => ?_)
          clear hK K
          refine wpAnyH_done (by kernel_rfl) ?_ _
          have T5 := Lib.hid (Turn.set (Turn.mono g5 (G := fun i => i = t ∨ (Value.slice Av L.length cv).ownBlock = some i) (fun i h => .inr h)) ⟨t, 2, none⟩ (.inl rfl) (.slice A5 (L.length + 1) k5))
          clear q2 f5 d5 HS5 q1
          go_wp2_with fail
          go_ret
          exact ⟨by rw [HSO.out]; rfl, _, by rw [HSL.out]; exact H5.out, G1.out.turnAnd T5.out, q3.imp id fun e => ⟨_, e, by have := G1.out.size; first | omega | (simp; done) | (simp; omega)⟩⟩
      · have z3 : decide (64 ≤ L.length) = true := decide_eq_true (by omega)
        have z4 : decide ((64 : Int) ≤ (L.length : Int)) = true := decide_eq_true (by omega)
        have z5 : (L.length : Int) = 64 := by omega
        have HNO := Lib.hid (show L = stL L a bs by unfold stL stO; rw [hmb, hin]; simp [h64])
        have HNE := Lib.hid (show stO L a m = false by unfold stO; rw [hin]; simp [h64])
        clear hin
        go_wp2_with fail
        go_ret
        refine ⟨?_, _, HNO.out ▸ H1.out, G1.out.turnAnd (Turn.refl _ _), .inl rfl⟩
        rw [HNE.out]; rfl
end Go.Proofs.Ytlinlmimakealaa

namespace Go.Proofs.Ytlinlmimakealaa
open Go.RowKit

/-- The first k bytes of a patch, laid over. -/
def OvAt (b' b : List UInt8) (a : Nat) (p : PT) (k : Nat) : Prop := b'.length = b.length ∧ ∀ j, j < b.length → b'.getD j 0 = if p.pos.toNat ≤ a + j ∧ a + j < p.pos.toNat + k then p.txt.getD (a + j - p.pos.toNat) 0 else b.getD j 0
theorem OvAt.start (b : List UInt8) (a : Nat) (p : PT) : OvAt b b a p 0 := ⟨rfl, fun j _ => by rw [if_neg (by omega)]⟩
theorem OvAt.done {b' b : List UInt8} {a : Nat} {p : PT} (h : OvAt b' b a p p.dat.size) : b' = ovB b a p := ovB_ext h.1 h.2
theorem OvAt.skip {b' b : List UInt8} {a : Nat} {p : PT} {k : Nat} (h : OvAt b' b a p k) (hx : ∀ j, j < b.length → a + j ≠ p.pos.toNat + k) : OvAt b' b a p (k + 1) :=
  ⟨h.1, fun j hj => by
    rw [h.2 j hj]
    have := hx j hj
    by_cases q : p.pos.toNat ≤ a + j ∧ a + j < p.pos.toNat + k
    · rw [if_pos q, if_pos (by omega)]
    · rw [if_neg q, if_neg (by omega)]⟩
theorem OvAt.set {b' b : List UInt8} {a : Nat} {p : PT} {k : Nat} (h : OvAt b' b a p k) {i : Nat} (hi : i < b.length) (hx : a + i = p.pos.toNat + k) : OvAt (b'.set i (p.txt.getD k 0)) b a p (k + 1) := by
  refine ⟨by rw [List.length_set]; exact h.1, fun j hj => ?_⟩
  have hl := h.1
  by_cases e : j = i
  · subst e
    rw [if_pos (by omega), show a + j - p.pos.toNat = k by omega]
    rw [List.getD_eq_getElem?_getD, List.getElem?_set_self (by omega)]
    rfl
  · have := h.2 j hj
    simp only [List.getD_eq_getElem?_getD, List.getElem?_set] at this ⊢
    rw [if_neg (fun q => e q.symm), this]
    by_cases q : p.pos.toNat ≤ a + j ∧ a + j < p.pos.toNat + k
    · rw [if_pos q, if_pos (by omega)]
    · rw [if_neg q, if_neg (by omega)]
theorem txt_at (q : Int) (dat : ByteArray) (k : Nat) (hk : k < dat.size) : (⟨q, dat⟩ : PT).txt.getD k 0 = dat[k] := by
  have h : k < dat.data.toList.length := by rw [Array.length_toList]; exact hk
  rw [PT.txt, List.getD_eq_getElem?_getD, List.getElem?_eq_getElem h]
  rfl
def RIn (w1 wr : World) (B : Nat) (A : Option Addr) (m c ka : Nat) (b : List UInt8) (p : PT) (t : Value) : Prop := ∃ (k : Nat) (b' : List UInt8), t = .int .i64 (k : Int) ∧ k ≤ p.dat.size ∧ Own wr B A m c b' ∧ OvAt b' b ka p k ∧ Turn (BlkA A) w1 wr

set_option maxHeartbeats 4000000 in
set_option maxRecDepth 4000 in
theorem rx_load {w : World} {base t l : Nat} {x : MB} {s : MS} {L : List PT} {v : Value} (h : RX w base t l x s L v) (hs : s.S.length = 1024) (a n : Int) :
    Calls Try.prog 52 #[.pointer (some ⟨t, 0, none⟩), .int .i64 a, .int .i64 n] w fun e w' => ∃ A c, e = .returned (.tuple #[.slice A (loadM 128 a n) c, .int .i64 (errV (inW 1024 a n))]) ∧ Own w' w.heap.size A (loadM 128 a n) c (lodL s L a n) ∧ Grow w w' := by
  obtain ⟨Av, cv, rfl, hcv⟩ := h.row.form
  have H := Lib.hid h
  have c0 := h.blk.1.2 0 _ rfl
  have c2 := h.blk.1.2 2 _ rfl
  have hfew := h.held.few
  obtain ⟨m, hm⟩ : ∃ m, m = loadM 128 a n := ⟨_, rfl⟩
  obtain ⟨ka, hka⟩ : ∃ k, k = a.toNat := ⟨_, rfl⟩
  obtain ⟨bs, hbs⟩ : ∃ bs, bs = loadL 128 s.S a n := ⟨_, rfl⟩
  obtain ⟨er, her⟩ : ∃ z, z = errV (inW 1024 a n) := ⟨_, rfl⟩
  have HLL := Lib.hid (show lodL s L a n = ovL bs ka L by rw [hbs, hka]; rfl)
  have HBL := Lib.hid (show bs.length = m ∧ m ≤ 1024 ∧ (0 < m → a = (ka : Int) ∧ ka + m ≤ 1024) by
    cases hin : inW 1024 a n with
    | false =>
      have hm0 : m = 0 := by rw [hm]; unfold loadM; rw [show (8 * 128 : Nat) = 1024 from rfl, hin]; rfl
      rw [hbs, (lod_no hin L).2, hm0]
      exact ⟨rfl, by omega, fun q => by omega⟩
    | true =>
      have hm0 : m = n.toNat := by rw [hm]; unfold loadM; rw [show (8 * 128 : Nat) = 1024 from rfl, hin]; rfl
      obtain ⟨h1, h2, h3⟩ := inW_iff.1 hin
      rw [hbs, lod_in hs hin, hm0]
      exact ⟨rfl, by omega, fun q => by omega⟩)
  have HM := Lib.hid hm
  have HBS := Lib.hid hbs
  have HER := Lib.hid her
  clear h hm hbs hka her
  go_enter Try.func52, Try.ntmps52
  go_wp2_with fail
  refine (rm_loadU H.out.lg.1 a n).mono ?_
  rintro e w1 ⟨A1, c1, rfl, o1, g1⟩
  rw [show (8 * 128 : Nat) = 1024 from rfl, ← HM.out, ← HER.out]
  rw [← HM.out, ← HBS.out] at o1
  have O1 := Lib.hid o1
  have G1 := Lib.hid g1
  have H1 := Lib.hid (H.out.keep g1)
  have HAB := Lib.hid o1.blkA
  obtain ⟨Ax, cx, ex, -, rx⟩ := H1.out.row.rp (by omega)
  injection ex with ex1 ex2 ex3
  subst ex1
  have RX1 := Lib.hid rx
  have HNA := Lib.hid (show 0 < L.length → ∀ p, Av = some p → ¬ BlkA A1 p.block from fun _ p hp q => by
    have q1 := (HAB.out _ q).1
    have q2 := (World.ownsRow.lt H.out.row p.block (by rw [hp]; rfl)).2
    omega)
  have HNT := Lib.hid (show ¬ BlkA A1 t from fun q => by
    have q1 := (HAB.out _ q).1
    have := H.out.blk.1.1
    omega)
  obtain ⟨N, hN⟩ : ∃ N, N = L.length := ⟨_, rfl⟩
  rw [← hN] at RX1 HNA hfew c2
  have HD2 := Lib.hid (g1.cell c2)
  have HN := Lib.hid hN
  clear o1 g1 rx ex2 ex3 c0 c2 hcv hN
  go_wp2_with fail
  go_loopw [10] (fun t wr => LoadInv w1 wr w.heap.size A1 m c1 ka bs L t) (fun t _ => N - (intOf t).toNat)
  case atStart => exact ⟨0, rfl, Nat.zero_le _, O1.out, Turn.refl _ _⟩
  case round =>
    obtain ⟨i, rfl, hi, ho, ht⟩ := hrel
    have HO := Lib.hid ho
    have HT := Lib.hid ht
    have hi' : i ≤ N := by have := HN.out; omega
    have d2 := ht.cell' HD2.out HNT.out
    clear ho ht hi
    by_cases hlt : i < N
    · have R2 := RX1.out.turn HT.out HNA.out
      obtain ⟨b, o, r, hrk, rfl, hb, e0, e1⟩ := R2.at_ hlt
      obtain ⟨f1, f2, f3⟩ := H.out.held.fit r (List.mem_of_getElem? hrk)
      have HST := Lib.hid (ovL_step (bs := bs) (a := ka) hrk)
      have HRK := Lib.hid hrk
      obtain ⟨pos, dat⟩ := r
      simp only at f1 f2 f3 e0 e1
      obtain ⟨q, rfl⟩ : ∃ q : Nat, pos = (q : Int) := ⟨pos.toNat, by omega⟩
      have hq : q ≤ 1024 := by omega
      have hsz : dat.size ≤ 256 := f3
      have HNB := Lib.hid (HNA.out (by omega) _ rfl)
      obtain ⟨bb, hbb⟩ : ∃ z, z = ovL bs ka (L.take i) := ⟨_, rfl⟩
      rw [← hbb] at HO HST
      have HBB := Lib.hid (show bb.length = m by rw [hbb, ovL_length]; exact HBL.out.1)
      have HE0 := Lib.hid (And.intro e0 (And.intro e1 d2))
      clear hrk R2 f1 f2 f3 hbb
      go_wp2_with fail
      go_loopw [11] (fun t wx => RIn w1 wx w.heap.size A1 m c1 ka bb ⟨(q : Int), dat⟩ t) (fun t _ => dat.size - (intOf t).toNat)
      case atStart => exact ⟨0, bb, rfl, Nat.zero_le _, HO.out, OvAt.start _ _ _, HT.out⟩
      case round =>
        obtain ⟨k, b', rfl, hk, ho, hov, ht⟩ := hrel
        have HO2 := Lib.hid ho
        have HOV := Lib.hid hov
        have HT2 := Lib.hid ht
        have hk' : k ≤ dat.size := hk
        have R3 := RX1.out.turn HT2.out HNA.out
        have d2 := HT2.out.cell' HD2.out HNT.out
        obtain ⟨bz, oz, rz, hrz, ez, hbz, d0, d1⟩ := R3.at_ hlt
        injection ez with ez
        injection ez with ez1 ez2
        subst ez1 ez2
        rw [HRK.out] at hrz
        injection hrz with hrz
        subst hrz
        simp only at d0 d1
        have e1 : wrap64 ((q : Int) + (k : Int)) = (q : Int) + (k : Int) := IntWalk.wrap64_in _ (by omega)
        clear ho hov ht R3 hk hbz
        by_cases hlt2 : k < dat.size
        · obtain ⟨X, hX⟩ : ∃ X, X = wrap64 ((q : Int) + (k : Int) - a) := ⟨_, rfl⟩
          have HX := Lib.hid hX
          have y1 : wrap64 ((q : Int) + (k : Int) - a) = X := hX.symm
          clear hX
          by_cases hx0 : 0 ≤ X
          · by_cases hxm : X < (m : Int)
            · obtain ⟨j, rfl⟩ : ∃ j : Nat, X = (j : Int) := ⟨X.toNat, by omega⟩
              have hjm : j < m := by omega
              obtain ⟨g, rfl, hg1, hg2⟩ := HO2.out.row (by omega)
              obtain ⟨k1, k2⟩ := HO2.out.look j hjm
              obtain ⟨u, hu⟩ := Option.isSome_iff_exists.1 k1
              have HJ := Lib.hid (show ka + j = q + k by
                obtain ⟨-, hm2, hm3⟩ := HBL.out
                obtain ⟨hz1, hz2⟩ := hm3 (by omega)
                have hz3 := HX.out
                rw [hz1, IntWalk.wrap64_in _ (by omega)] at hz3
                omega)
              have hv := HOV.out.set (i := j) (by rw [HBB.out]; exact hjm) HJ.out
              rw [txt_at _ _ _ hlt2] at hv
              have HV := Lib.hid hv
              clear k1 hv
              go_wp2_with fail
              go_roundw
              have e5 : wrap64 ((k : Int) + 1) = (k : Int) + 1 := IntWalk.wrap64_in _ (by omega)
              case rel => (try rw [e5]); exact ⟨k + 1, _, by simp, hlt2, HO2.out.set1 j (dat[k]), HV.out, HT2.out.set ⟨g, j, none⟩ ⟨⟨g, 0, none⟩, rfl, rfl⟩ _⟩
              case measure => (have e5 : wrap64 ((k : Int) + 1) = (k : Int) + 1 := IntWalk.wrap64_in _ (by omega)); first | exact measF hlt2 | exact measFW hlt2 e5
            · have z2 : decide (X < (m : Int)) = false := decide_eq_false hxm
              have HV := Lib.hid (HOV.out.skip (fun j hj he => by
                obtain ⟨-, hm2, hm3⟩ := HBL.out
                rw [HBB.out] at hj
                obtain ⟨hz1, hz2⟩ := hm3 (by omega)
                have hz3 := HX.out
                simp only [Int.toNat_natCast] at he
                rw [hz1, IntWalk.wrap64_in _ (by omega)] at hz3
                omega))
              go_wp2_with fail
              go_roundw
              have e5 : wrap64 ((k : Int) + 1) = (k : Int) + 1 := IntWalk.wrap64_in _ (by omega)
              case rel => (try rw [e5]); exact ⟨k + 1, _, by simp, hlt2, HO2.out, HV.out, HT2.out⟩
              case measure => (have e5 : wrap64 ((k : Int) + 1) = (k : Int) + 1 := IntWalk.wrap64_in _ (by omega)); first | exact measF hlt2 | exact measFW hlt2 e5
          · have z1 : decide (0 ≤ X) = false := decide_eq_false hx0
            have HV := Lib.hid (HOV.out.skip (fun j hj he => by
              obtain ⟨-, hm2, hm3⟩ := HBL.out
              rw [HBB.out] at hj
              obtain ⟨hz1, hz2⟩ := hm3 (by omega)
              have hz3 := HX.out
              simp only [Int.toNat_natCast] at he
              rw [hz1, IntWalk.wrap64_in _ (by omega)] at hz3
              omega))
            go_wp2_with fail
            go_roundw
            have e5 : wrap64 ((k : Int) + 1) = (k : Int) + 1 := IntWalk.wrap64_in _ (by omega)
            case rel => (try rw [e5]); exact ⟨k + 1, _, by simp, hlt2, HO2.out, HV.out, HT2.out⟩
            case measure => (have e5 : wrap64 ((k : Int) + 1) = (k : Int) + 1 := IntWalk.wrap64_in _ (by omega)); first | exact measF hlt2 | exact measFW hlt2 e5
        · have HE := Lib.hid (show b' = ovB bb ka ⟨(q : Int), dat⟩ from (show k = dat.size by omega) ▸ HOV.out |>.done)
          have HX := Lib.hid (show LoadInv w1 wr w.heap.size A1 m c1 ka bs L (.int .i64 ((i : Int) + 1)) from ⟨i + 1, by simp, by have := HN.out; omega, by rw [HST.out, ← HE.out]; exact HO2.out, HT2.out⟩)
          go_wp2_with fail
          go_roundw
          have e5 : wrap64 ((i : Int) + 1) = (i : Int) + 1 := IntWalk.wrap64_in _ (by omega)
          case rel => (try rw [e5]); first | exact HX.out | ((repeat apply Exists.intro); exact HX.out) | ((repeat apply Exists.intro); refine ⟨HX.out, ?_⟩; rfl)
          case measure => (have e5 : wrap64 ((i : Int) + 1) = (i : Int) + 1 := IntWalk.wrap64_in _ (by omega)); first | exact measF hlt | exact measFW hlt e5
    · have HE := Lib.hid (show ovL bs ka (L.take i) = ovL bs ka L by rw [List.take_of_length_le (by have := HN.out; omega)])
      go_wp2_with fail
      go_ret2
      refine ⟨A1, c1, by rw [← HM.out, ← HER.out]; rfl, ?_, G1.out.low (HT.out.low (fun i q => (HAB.out i q).1) G1.out.size)⟩
      rw [HLL.out, ← HM.out, ← HE.out]
      exact HO.out
end Go.Proofs.Ytlinlmimakealaa

namespace Go.Proofs.Ytlinlmimakealaa
open Go.RowKit

set_option maxHeartbeats 2000000 in
theorem rx_commit {w : World} {base t l : Nat} {x : MB} {s : MS} {L : List PT} {v : Value} (h : RX w base t l x s L v) :
    Calls Try.prog 49 #[.pointer (some ⟨t, 0, none⟩)] w fun e w' => e = .returned (.int .i64 (cmE s L)) ∧ ∃ v', RX w' base t l x (cmS s L) (cmL s L) v' ∧ Turn (fun k => x.F k ∨ k = t) w w' ∧ (v'.ownBlock = none ∨ v' = v) := by
  obtain ⟨Av, cv, rfl, hcv⟩ := h.row.form
  have H := Lib.hid h
  have c1 := h.blk.1.2 1 _ rfl
  have c2 := h.blk.1.2 2 _ rfl
  have hfew := h.held.few
  obtain ⟨Ax, cx, ex, -, rx⟩ := h.row.rp (by omega)
  injection ex with ex1 ex2 ex3
  subst ex1
  have R := Lib.hid rx
  clear rx ex2 ex3 hcv h
  by_cases h0 : L.length = 0
  · have HCE := Lib.hid (show cmE s L = 0 by unfold cmE; rw [if_pos h0])
    have HCS := Lib.hid (show cmS s L = s by unfold cmS; rw [if_pos h0])
    have HCL := Lib.hid (show cmL s L = L by unfold cmL; rw [if_pos h0]; exact (List.eq_nil_of_length_eq_zero h0).symm)
    rw [h0] at c2
    go_enter Try.func49, Try.ntmps49
    go_wp2_with fail
    go_ret
    exact ⟨by rw [HCE.out]; rfl, _, by rw [HCS.out, HCL.out]; exact H.out, Turn.refl _ _, .inr rfl⟩
  · have z0 : ¬ (L.length : Int) = 0 := by omega
    have z1 : decide ((L.length : Int) = 0) = false := decide_eq_false z0
    obtain ⟨E, hE⟩ : ∃ E, E = apE s.S L := ⟨_, rfl⟩
    have HE := Lib.hid hE
    obtain ⟨N, hN⟩ : ∃ N, N = L.length := ⟨_, rfl⟩
    rw [← hN] at R c2 z0 z1
    have HN := Lib.hid hN
    clear hE hN
    go_enter Try.func49, Try.ntmps49
    go_wp2_with fail
    go_region_held3 (fun w' => w'.cell? ⟨t, 1, none⟩ = some (.pointer (some ⟨l, 0, none⟩)) ∧ w'.cell? ⟨t, 2, none⟩ = some (.slice Av N cv)) (first | exact ⟨c1, c2⟩ | exact hsA) ((first
      | (go_at_call 68; go_loud (refine (rl_append (H.out.lg.keep ?_) (R.out.keep ?_) H.out.held.wide).mono ?_; (repeat (first | exact Grow.refl _ | refine Grow.drew ?_ | refine Grow.drewN ?_ _)); rintro e w5 ⟨rfl, h5, t5'⟩; have t5 : Turn x.F w w5 := (Turn.grow (show Grow w _ by (repeat (first | exact Grow.refl _ | refine Grow.drew ?_ | refine Grow.drewN ?_ _))) x.F).and t5'; have hsA := And.intro (t5.cell' c1 H.out.xt) (t5.cell' c2 H.out.xt); rw [← HE.out]; clear t5'))))
    all_goals
      have H5 := Lib.hid (H.out.mem h5 t5)
      have T5 := Lib.hid t5
      have k1 := hsA.1
      clear h5 t5 hsA c1 c2
      by_cases hE0 : E = 0
      · have HCE := Lib.hid (show cmE s L = 0 by unfold cmE; rw [if_neg h0, ← HE.out, hE0])
        have HCS := Lib.hid (show cmS s L = (s.append L).redo by unfold cmS; rw [if_neg h0, if_pos (by rw [← HE.out, hE0])])
        have HCL := Lib.hid (show cmL s L = [] by unfold cmL; rw [if_neg h0, if_pos (by rw [← HE.out, hE0])])
        subst hE0
        go_wp2_with fail
        refine (rl_redo H5.out.lg).mono ?_
        rintro e w7 ⟨rfl, h7, t7⟩
        have H7 := Lib.hid (H5.out.mem h7 t7)
        have T7 := Lib.hid ((T5.out.and t7).mono (G := fun k => x.F k ∨ k = t) fun i q => .inl q)
        clear h7 t7 k1
        have f7 := H7.out.blk.2 2 (by simp)
        have d7 := H7.out.blk.1.2 2 _ rfl
        go_wp2_with fail
        go_ret
        exact ⟨by rw [HCE.out]; rfl, _, by rw [HCS.out, HCL.out]; exact H7.out.put (OP.nil _ _) (Turn.refl _ _) (.inr fun g hg => by cases hg) Held.nil, T7.out.and (Turn.setCell (F := fun k => x.F k ∨ k = t) _ (p := ⟨t, 2, none⟩) (.inr rfl) _), .inl rfl⟩
      · have HCE := Lib.hid (show cmE s L = E by unfold cmE; rw [if_neg h0, ← HE.out])
        have HCS := Lib.hid (show cmS s L = s.append L by unfold cmS; rw [if_neg h0, if_neg (by rw [← HE.out]; exact hE0)]; rw [MS.append, if_neg (by rw [← HE.out]; exact hE0)])
        have HCL := Lib.hid (show cmL s L = L by unfold cmL; rw [if_neg h0, if_neg (by rw [← HE.out]; exact hE0)])
        have z2 : decide (E = 0) = false := decide_eq_false hE0
        go_wp2_with fail
        go_ret
        exact ⟨by rw [HCE.out]; rfl, _, by rw [HCS.out, HCL.out]; exact H5.out, T5.out.mono fun i q => .inl q, .inr rfl⟩
end Go.Proofs.Ytlinlmimakealaa
