/- commonsref08.Log: End, keep, Clear. commonsref08.Log: Read. commonsref08.Log: Append. commonsref08.SamePatches, SameRecords. No statement of the seat is proved here. -/
import Derived.Test.YtlinlmimakealaaZ13
import Derived.Test.YtlinlmimakealaaZ12
import Derived.Test.YtlinlmimakealaaZ14
import Derived.Test.YtlinlmimakealaaZ07
import Derived.Test.YtlinlmimakealaaZ11
import Derived.Deep.QuietTactic
import Derived.BigQuiet
import Derived.Deep.RegionHeld3
namespace Go.Proofs.Ytlinlmimakealaa
open Go.RowKit

/-- The document's log in the last 512 bytes of a memory of 1024. -/
def RL (w : World) (l : Nat) (x : MB) (s : MS) : Prop := RM w x 128 s.S s.T s.A ∧ Blk w l [.pointer (some ⟨x.p, 0, none⟩), .int .i64 512, .int .i64 512] ∧ ¬ x.F l
section
variable {w w' : World} {l : Nat} {x : MB} {s : MS} {F : Nat → Prop}
theorem RL.keep (h : RL w l x s) (g : Grow w w') : RL w' l x s := ⟨h.1.keep g, h.2.1.keep g, h.2.2⟩
theorem RL.turn (h : RL w l x s) (t : Turn F w w') (h1 : ∀ k, F k → ¬ x.F k) (h2 : ¬ F l) : RL w' l x s := ⟨h.1.turn t h1, h.2.1.turn t h2, h.2.2⟩
theorem RL.lenS (h : RL w l x s) : s.S.length = 1024 := h.1.lenS
/-- What a walk wants of the bytes that are seen. -/
theorem RM.eyes {S T : List UInt8} {A : List Bool} (h : RM w x 128 S T A) : ∃ L cs, Hid (L = 1024) ∧ L ≤ 1024 ∧ 1024 ≤ L ∧ L ≤ cs ∧ w.cell? ⟨x.p, 0, none⟩ = some (.slice (some ⟨x.gs, 0, none⟩) L cs) ∧ Sl w (some ⟨x.gs, 0, none⟩) L S := by
  have hl := h.lenS
  obtain ⟨L, cs, ct, ca, HL, h1, -, -, c0, -, -, -⟩ := h.look
  have e : L = 1024 := HL.out
  exact ⟨L, cs, Lib.hid e, by omega, by omega, h1, c0, by omega, by omega, h.seenRB⟩
end

set_option maxHeartbeats 2000000 in
theorem rl_keep {w : World} {l : Nat} {x : MB} {s : MS} (h : RL w l x s) {B : Option Addr} {m c : Nat} {bs : List UInt8} (hs : Sl w B m bs) (hB : 0 < m → ∀ p, B = some p → ¬ x.F p.block) (a : Int) :
    Calls Try.prog 78 #[.pointer (some ⟨l, 0, none⟩), .int .i64 a, .slice B m c] w fun e w' => e = .returned (.tuple #[]) ∧ RL w' l x (s.keep a bs) ∧ Turn x.F w w' := by
  obtain ⟨hP, hl, hlx⟩ := h
  have c0 := hl.c3.1
  have HL := Lib.hid hl
  have HLX := Lib.hid hlx
  have HP := Lib.hid hP
  have HS := Lib.hid hs
  have HB := Lib.hid hB
  have HM := Lib.hid hs.1
  clear hl hP hs hB hlx
  go_enter Try.func78, Try.ntmps78
  go_wp2_with fail
  refine (rm_storeU HP.out HS.out HB.out a).mono ?_
  rintro e w1 ⟨rfl, hP1, t1⟩
  have HP1 := Lib.hid hP1
  have HT1 := Lib.hid t1
  have HL1 := Lib.hid (HL.out.turn t1 HLX.out)
  have c1 := HL1.out.c3.1
  clear hP1 t1 c0
  go_wp2_with fail
  refine (rm_flushU HP1.out a (m : Int)).mono ?_
  rintro e w2 ⟨rfl, hP2, t2⟩
  have HP2 := Lib.hid hP2
  have HT2 := Lib.hid (HT1.out.and t2)
  have HL2 := Lib.hid (HL1.out.turn t2 HLX.out)
  have c2 := HL2.out.c3.1
  clear hP2 t2 c1
  go_wp2_with fail
  refine (rm_fence HP2.out).mono ?_
  rintro e w3 ⟨rfl, hP3, t3⟩
  have HP3 := Lib.hid hP3
  have HT3 := Lib.hid t3
  clear hP3 t3 c2
  go_wp2_with fail
  go_end0
  refine ⟨rfl, ⟨?_, HL2.out.turn HT3.out HLX.out, HLX.out⟩, HT2.out.and HT3.out⟩
  simp only [MS.keep, MS.fence, MS.flush, MS.store]
  rw [HM.out]
  exact HP3.out

set_option maxHeartbeats 4000000 in
theorem rl_end {w : World} {l : Nat} {x : MB} {s : MS} (h : RL w l x s) :
    Calls Try.prog 85 #[.pointer (some ⟨l, 0, none⟩)] w fun e w' => e = .returned (.int .i64 (lgE s.S : Nat)) ∧ Grow w w' := by
  obtain ⟨hP, hl, hlx⟩ := h
  have c0 := hl.c3.1
  have c1 := hl.c3.2.1
  have c2 := hl.c3.2.2
  obtain ⟨L, cs, HLL, hL1, hL2, hcs, d0, hsl⟩ := hP.eyes
  have HS := Lib.hid hsl
  have HG := Lib.hid (get_any s.S 512 8)
  obtain ⟨kb, hkb⟩ : ∃ kb, kb = getK s.S 512 8 := ⟨_, rfl⟩
  have HK := Lib.hid hkb
  obtain ⟨v, hV⟩ : ∃ v, v = getN s.S 512 8 := ⟨_, rfl⟩
  rw [← hV] at HG
  have HV := Lib.hid hV
  have hv0 := HG.out.1
  clear hl hP hlx hsl hV hkb
  go_enter Try.func85, Try.ntmps85
  go_wp2_with fail
  go_region_held3 (fun w' => w'.cell? ⟨l, 0, none⟩ = some (.pointer (some ⟨x.p, 0, none⟩)) ∧ w'.cell? ⟨l, 1, none⟩ = some (.int .i64 512) ∧ w'.cell? ⟨l, 2, none⟩ = some (.int .i64 512) ∧ w'.cell? ⟨x.p, 0, none⟩ = some (.slice (some ⟨x.gs, 0, none⟩) L cs)) (first | exact ⟨c0, c1, c2, d0⟩ | exact hs3) ((go_at_call 88; go_loud (refine (rget_s (HS.out.keep ((Grow.refl w).drewN 1)) (by decide) (by decide)).mono ?_; rintro e w3 ⟨rfl, hw3⟩; rw [← HV.out, ← HK.out]; have g3 : Grow w w3 := (by rw [← hw3]; exact (Grow.refl w).drewN 1); have hs3 := And.intro (g3.cell c0) (And.intro (g3.cell c1) (And.intro (g3.cell c2) (g3.cell d0))); clear hw3)))
  all_goals
    obtain ⟨k0, k1, k2, k3⟩ := hs3
    have G3 := Lib.hid g3
    clear g3 k0 k1 k3 c0 c1 c2 d0
    cases kb with
    | false =>
      have HR := Lib.hid (show lgE s.S = 0 by rw [lgE, get_no HK.out.symm]; rfl)
      go_wp2_with fail
      go_ret
      exact ⟨ret_int (by rw [HR.out]; rfl), G3.out⟩
    | true =>
    by_cases h5 : 504 < v
    · have z1 : decide (504 < v) = true := decide_eq_true h5
      have HR := Lib.hid (show lgE s.S = 0 by rw [lgE, ← HV.out, if_pos h5])
      clear h5
      go_wp2_with fail
      go_ret
      exact ⟨ret_int (by rw [HR.out]; rfl), G3.out⟩
    · have z1 : decide (504 < v) = false := decide_eq_false h5
      have HR := Lib.hid (show (lgE s.S : Int) = v by rw [lgE, ← HV.out, if_neg h5]; omega)
      clear h5
      go_wp2_with fail
      go_ret
      exact ⟨ret_int HR.out.symm, G3.out⟩

theorem rl_wipe_at {w wz : World} {l : Nat} {x : MB} {s : MS} (h : RL w l x s) (g : Grow w wz) (k c : Nat) (hk : w.heap.size ≤ k) (hs : Sl wz (some ⟨k, 0, none⟩) 8 (List.replicate 8 0)) :
    Calls Try.prog 78 #[.pointer (some ⟨l, 0, none⟩), .int .i64 512, .slice (some ⟨k, 0, none⟩) 8 c] wz fun e w' => e = .returned (.tuple #[]) ∧ RL w' l x s.wipe ∧ Turn x.F w w' := by
  refine (rl_keep (h.keep g) hs (fun _ p hp q => ?_) 512).mono ?_
  · injection hp with hp
    subst hp
    have q' : x.F k := q
    have := h.1.lt k q'
    omega
  rintro e w' ⟨rfl, h5, t5⟩
  exact ⟨rfl, h5, (Turn.grow g _).and t5⟩

set_option maxHeartbeats 2000000 in
set_option maxRecDepth 4000 in
theorem rl_clear {w : World} {l : Nat} {x : MB} {s : MS} (h : RL w l x s) :
    Calls Try.prog 81 #[.pointer (some ⟨l, 0, none⟩)] w fun e w' => e = .returned (.tuple #[]) ∧ RL w' l x s.wipe ∧ Turn x.F w w' := by
  have H := Lib.hid h
  have c1 := h.2.1.c3.2.1
  have c2 : (w.alloc (.cells zc8 5)).cell? ⟨l, 1, none⟩ = some (.int .i64 512) := cell_alloc c1
  have c3 : (w.drew.alloc (.cells zc8 5)).cell? ⟨l, 1, none⟩ = some (.int .i64 512) := cell_alloc c1
  have hmk := make8
  clear h
  go_enter Try.func81, Try.ntmps81
  go_wp2_with fail
  go_region_with (go_at_call 78; refine (rl_wipe_at H.out ?_ _ _ ?_ ?_).mono ?_; (repeat (first | exact Grow.refl _ | refine Grow.drew ?_ | refine Grow.drewN ?_ _ | refine Grow.alloc ?_ _)); (first | exact Nat.le_refl _ | simp); ((repeat (refine Sl.drew ?_)); exact Sl.at8 _ _ _ rfl); rintro e w6 ⟨rfl, h6, t6⟩)
  all_goals
    have H6 := Lib.hid h6
    have HT6 := Lib.hid t6
    clear h6 t6
    go_wp2_with fail
    go_end0
    exact ⟨rfl, H6.out, HT6.out⟩
end Go.Proofs.Ytlinlmimakealaa

namespace Go.Proofs.Ytlinlmimakealaa
open Go.RowKit

/-- 'append' at a step of a region that draws its order. -/
theorem step_appB {w : World} {ops : Array Oper} {o : Oper} {a : Act} {K : Act → World → Prop} {Q : Exit → Act → World → Prop} {E : Prop} (hgd : o.guard = none) (s x : Operand)
    (ho : o.op = .call { callee := .builtin .append, args := #[s, x], argTypes := #[22, 22] })
    (base : Nat) (v : Value) (bs : List UInt8) (hs : a.eval s = v) (hown : OB w base v bs)
    (B : Nat) (A : Option Addr) (c : Nat) (news : List UInt8) (m : Nat) (hm : m = news.length) (hx : a.eval x = .slice A m c) (hr : RB w B A news)
    (h63 : bs.length + news.length ≤ 140737488355328) (hbase : base ≤ w.heap.size)
    (h : ∀ v' w', OB w' base v' (bs ++ news) → Below base w w' → K (a.put o.dst v') w') : if Region.wanted o (yielded ops a.tmps) = true then Oper.wp Try.prog o a w K Q else E := by
  subst hm
  have hw : Region.wanted o (yielded ops a.tmps) = true := by simp [Region.wanted, hgd]
  rw [if_pos hw]
  obtain ⟨i0, hi, hz, h1, h2⟩ := info_parts byte_info
  obtain ⟨v', w', hrun, h3, h4, h5⟩ := app_any (P := Try.prog) w base 22 o.type 5 i0 _ 1 1 Try.underlying22 hi hz h1 h2 rfl (by omega) v bs.length (bvs bs) hown B A news.length c (bvs news) hr (bvs_one news) (by unfold maxLen; omega) (by omega) hbase
  unfold Oper.wp execOp
  simp only [ho, resolve, invoke, builtin, Sem.run_bind, Sem.run_pure, Result.andThen_ok, List.map_toArray, List.map_cons, List.map_nil, hs, hx, hrun]
  exact h v' w' (by unfold OB; rw [List.length_append, bvs_append]; exact h3) ((Below.refl _ _).grown h4 hbase (fun k hk => (hown.lt k hk).1))

theorem ret_pair {v : Value} {a b : Int} (h : a = b) : Ending.returned (.tuple #[v, .int .i64 a]) = .returned (.tuple #[v, .int .i64 b]) := by rw [h]
theorem slice_ne {P : Prop} [Decidable P] {A B : Option Addr} {n c : Nat} (h : ¬ P) : Value.slice (if P then A else B) n c = Value.slice B n c := by rw [if_neg h]
def ReadInv (w wr : World) (bs : List UInt8) (tv tu : Value) : Prop :=
  ∃ (k i : Nat) (R : List RW), tu = .int .i64 (k : Int) ∧ k ≤ bs.length ∧ EachLink bs k i ∧ OW wr w.heap.size tv R ∧ R.map RW.L = (rcL bs).take i ∧ R.length = i ∧ i ≤ k ∧ Grow w wr

set_option maxHeartbeats 8000000 in
set_option maxRecDepth 8000 in
theorem rl_read {w : World} {l : Nat} {x : MB} {s : MS} (h : RL w l x s) :
    Calls Try.prog 77 #[.pointer (some ⟨l, 0, none⟩)] w fun e w' => ∃ v R, e = .returned (.tuple #[v, .int .i64 (lgU s.S : Nat)]) ∧ OW w' w.heap.size v R ∧ R.map RW.L = lgL s.S ∧ Grow w w' := by
  obtain ⟨hP, hl, hlx⟩ := id h
  have c0 := hl.c3.1
  have c1 := hl.c3.2.1
  obtain ⟨L, cs, HLL, hL1, hL2, hcs, d0, hsl⟩ := hP.eyes
  have HRL := Lib.hid h
  have HLE := Lib.hid (lgE_le s.S)
  have HBL := Lib.hid (lgB_length (S := s.S) hP.lenS)
  obtain ⟨n0, hn0⟩ : ∃ n0, n0 = lgE s.S := ⟨_, rfl⟩
  rw [← hn0] at HLE HBL
  have hn504 := HLE.out
  have hsd := (hsl.drop (k := 520) (c := cs) (by omega) hcs).take (k := n0) (by omega)
  rw [if_neg (by omega), show (some (⟨x.gs, 0, none⟩ : Addr)).map (·.add 520) = some ⟨x.gs, 520, none⟩ by simp [Addr.add_lit]] at hsd
  have hbe : (s.S.drop 520).take n0 = lgB s.S := by rw [lgB, ← hn0]
  rw [hbe] at hsd
  obtain ⟨bs, hbs⟩ : ∃ bs, bs = lgB s.S := ⟨_, rfl⟩
  rw [← hbs] at hsd HBL
  have HN0 := Lib.hid hn0
  have HBS := Lib.hid hbs
  have HSD := Lib.hid hsd
  have y0 : IntKind.i64.wrap 520 = 520 := rfl
  have hne : ¬ cs = 520 := by omega
  have y1 : IntKind.i64.wrap (520 + (n0 : Int)) = 520 + (n0 : Int) := IntWalk.i64_in _ (by omega)
  have i1 : (0 : Int) ≤ 520 + (n0 : Int) := by omega
  have i2 : (520 + (n0 : Int)).toNat = 520 + n0 := by omega
  have i3 : 520 + (n0 : Int) ≤ (cs : Int) := by omega
  have i4 : (520 : Int) ≤ 520 + (n0 : Int) := by omega
  have i5 : 520 + n0 ≤ cs := by omega
  clear h hl hP hlx hn0 hsl hsd hbe hbs
  go_enter Try.func77, Try.ntmps77
  go_wp2_with fail
  go_region_held3 (fun w' => w'.cell? ⟨l, 0, none⟩ = some (.pointer (some ⟨x.p, 0, none⟩)) ∧ w'.cell? ⟨l, 1, none⟩ = some (.int .i64 512) ∧ w'.cell? ⟨x.p, 0, none⟩ = some (.slice (some ⟨x.gs, 0, none⟩) L cs)) (first | exact ⟨c0, c1, d0⟩ | exact hs3 | exact hs4) ((first
    | (go_at_call 85; go_loud (refine (rl_end (HRL.out.keep ((Grow.refl w).drewN 1))).mono ?_; rintro e w3 ⟨rfl, g3'⟩; rw [← HN0.out]; have g3 : Grow w w3 := ((Grow.refl w).drewN 1).trans g3'; have hs3 := And.intro (g3.cell c0) (And.intro (g3.cell c1) (g3.cell d0))))
    | (refine step_appB rfl (.tmp 10) (.tmp 31) rfl w3.heap.size _ [] rfl (OB.nil _ _) w3.heap.size (some ⟨x.gs, 520, none⟩) (cs - 520) bs n0 HBL.out.symm (by first | rfl | exact slice_ne hne) (HSD.out.keep g3).2.2 (by rw [HBL.out]; simp; omega) (Nat.le_refl _) ?_; intro v4 w4 q1 q2; obtain ⟨A4, c4, rfl, o4⟩ := Own.ofOB q1 n0 (by rw [List.nil_append]; exact HBL.out) (by omega); have hs4 := And.intro ((show Grow w3 w4 from q2).cell hs3.1) (And.intro ((show Grow w3 w4 from q2).cell hs3.2.1) ((show Grow w3 w4 from q2).cell hs3.2.2)); clear q1)))
  all_goals
    rw [List.nil_append] at o4
    have HO4 := Lib.hid o4
    have HG4 := Lib.hid (g3.trans (show Grow w3 w4 from q2))
    have HCAP := Lib.hid o4.cap
    have hn4 : n0 ≤ c4 := o4.cap
    clear o4 g3 q2 hs3 hs4 c0 c1 d0 i1 i2 i3 i4 i5 y0 y1 HSD hne
    go_wp2_with fail
    go_loopw [5, 6] (fun tv tu wr => ReadInv w4 wr bs tv tu) (fun _ tu _ => n0 - (intOf tu).toNat)
    case atStart => exact ⟨0, 0, [], by simp, Nat.zero_le _, EachLink.start _, OW.nil _ _, by simp, rfl, Nat.le_refl _, Grow.refl _⟩
    case round =>
      obtain ⟨k, i, R, rfl, hk, hlk, how, hRL, hRi, hik, hg⟩ := hrel
      have HLK := Lib.hid hlk
      have HOW := Lib.hid how
      have HRR := Lib.hid hRL
      have HRI := Lib.hid hRi
      have HG := Lib.hid hg
      have hk' : k ≤ n0 := by have := HBL.out; omega
      clear hk hlk how hRL hRi hg
      by_cases hpos : k < n0
      · obtain ⟨g, hA, -, -⟩ := HO4.out.row (by omega)
        subst hA
        have hsd := (HO4.out.sl.keep HG.out).drop (k := k) (c := c4) (by omega) HCAP.out
        rw [if_neg (by omega), show (some (⟨g, 0, none⟩ : Addr)).map (·.add k) = some ⟨g, 0 + k, none⟩ by simp [Addr.add_lit]] at hsd
        have HSD := Lib.hid hsd
        clear hsd
        go_wp2_with fail
        simp only [Nat.zero_add] at HSD
        refine (rl_decode HSD.out (by omega)).mono ?_
        rintro e w5 ⟨v, rfl, hop, g5⟩
        obtain ⟨E, hE⟩ : ∃ E, E = dpE (bs.drop k) := ⟨_, rfl⟩
        obtain ⟨D, hD⟩ : ∃ D, D = dpU (bs.drop k) := ⟨_, rfl⟩
        rw [← hE, ← hD]
        have HE := Lib.hid hE
        have HD := Lib.hid hD
        have HG5 := Lib.hid g5
        have HOP := Lib.hid hop
        clear hE hD g5 hop
        by_cases h0 : E = 0
        · have h0' : (E != 0) = false := by rw [bne_eq_false_iff_eq]; exact h0
          have hdz : dpE (bs.drop k) = 0 := by rw [← HE.out]; exact h0
          have hst := HLK.out.step hdz
          have hup := dpU_pos hdz
          rw [← HD.out] at hst hup
          have HST := Lib.hid hst.1
          have HNTH := Lib.hid hst.2
          have hD1 : 8 ≤ D := hup.1
          have hD2 : k + D ≤ n0 := by have := hup.2.1; rw [List.length_drop, HBL.out] at this; omega
          have HBZ := Lib.hid HG.out.size
          obtain ⟨Av, cv, rfl, -⟩ := HOP.out.form
          obtain ⟨q, hq⟩ : ∃ q, q = (dpL (bs.drop k)).length := ⟨_, rfl⟩
          rw [← hq] at HOP ⊢
          have HNE := Lib.hid (show ∀ g', (Value.slice Av q cv).ownBlock = some g' → Value.ownBlock _ ≠ some g' from fun g' q1 q2 => by
            have t1 := (World.ownsRow.lt HOW.out.1 g' q2).2
            have t2 := (World.ownsRow.lt HOP.out g' q1).1
            omega)
          have HQ := Lib.hid hq
          clear hst hup hdz h0 hq
          go_wp2_with (at_builtin; go_loud (refine wpList_appW rfl (.tmp 47) (.tmp 49) rfl w4.heap.size _ R rfl ⟨.slice Av q cv, dpL (bs.drop k)⟩ _ rfl (by first | rfl | simp) (HOW.out.keep HG5.out) (HOP.out.low HBZ.out) HNE.out (by have := HRI.out; omega) (Nat.le_trans HBZ.out HG5.out.size) ?_; intro v6 w6 r1 r2 r3))
          have X : ReadInv w4 w6 bs v6 (.int .i64 ((k + D : Nat) : Int)) :=
            ⟨k + D, i + 1, R ++ [⟨.slice Av q cv, dpL (bs.drop k)⟩], rfl, by rw [HBL.out]; exact hD2, HST.out, r1, by rw [List.map_append, HRR.out, List.take_add_one, HNTH.out]; rfl, by simp [HRI.out], by omega, (HG.out.trans HG5.out).low r3⟩
          have HX := Lib.hid X
          clear X r1 r2 r3
          go_roundw
          have e5 := wrap_k (k := k) (d := D) (by omega)
          case rel => (try rw [e5]); first | exact HX.out | ((repeat apply Exists.intro); exact HX.out) | ((repeat apply Exists.intro); refine ⟨HX.out, ?_⟩; rfl)
          case measure => (have e5 := wrap_k (k := k) (d := D) (by omega)); (try rw [e5]); simp [intOf]; omega
        · have h0' : (E != 0) = true := by rw [bne_iff_ne]; exact h0
          have hdn := HLK.out.done (by rw [← HE.out]; exact h0)
          have HDN := Lib.hid hdn
          clear hdn h0
          go_wp2_with fail
          go_ret2
          exact ⟨_, R, ret_pair (by rw [lgU, ← HBS.out, HDN.out.1]), (HOW.out.keep HG5.out).low HG4.out.size, by rw [HRR.out, lgL, ← HBS.out, List.take_of_length_le (by rw [HDN.out.2]; exact Nat.le_refl _)], (HG4.out.trans HG.out).trans HG5.out⟩
      · obtain rfl : k = n0 := by omega
        have hdn := HLK.out.done (by rw [List.length_eq_zero_iff.1 (show (bs.drop k).length = 0 by rw [List.length_drop, HBL.out]; omega), dpE_nil]; simp)
        have HDN := Lib.hid hdn
        clear hdn hpos
        go_wp2_with fail
        go_ret2
        exact ⟨_, R, ret_pair (by rw [lgU, ← HBS.out, HDN.out.1]), HOW.out.low HG4.out.size, by rw [HRR.out, lgL, ← HBS.out, List.take_of_length_le (by rw [HDN.out.2]; exact Nat.le_refl _)], HG4.out.trans HG.out⟩
end Go.Proofs.Ytlinlmimakealaa

namespace Go.Proofs.Ytlinlmimakealaa
open Go.RowKit

theorem rput_end {w : World} (U m : Nat) (h : U + m ≤ 2000) : Calls Try.prog 20 #[.slice none 0 0, .int .i64 ((U : Int) + (m : Int)), .int .i64 8] w fun e w' => ∃ A' c', e = .returned (.slice A' 8 c') ∧ Own w' w.heap.size A' 8 c' (leB (U + m) 8) ∧ Grow w w' := by
  refine (rput_s (n := 0) (bs := []) 8 Sl.nil (fits_small8 (by omega) (by omega)) (by omega) rfl (by omega)).mono ?_
  rintro e w' ⟨A', c', rfl, o, g⟩
  rw [List.nil_append, show ((U : Int) + (m : Int)).toNat = U + m by omega] at o
  exact ⟨A', c', rfl, o, g⟩

set_option maxHeartbeats 4000000 in
set_option maxRecDepth 8000 in
theorem rl_append {w : World} {l : Nat} {x : MB} {s : MS} (h : RL w l x s) {A : Option Addr} {n c : Nat} {L : List PT} (hr : RP w A n L) (hw : ∀ p ∈ L, p.wide) :
    Calls Try.prog 68 #[.pointer (some ⟨l, 0, none⟩), .slice A n c] w fun e w' => e = .returned (.int .i64 (apE s.S L)) ∧ RL w' l x (s.append L) ∧ Turn x.F w w' := by
  have H := Lib.hid h
  have HR := Lib.hid hr
  have HW := Lib.hid hw
  have HLT := Lib.hid h.1.lt
  clear h hr hw
  go_enter Try.func68, Try.ntmps68
  go_wp2_with fail
  refine (rl_encode HR.out HW.out).mono ?_
  rintro e w1 (⟨hm, A1, c1, rfl, o1, g1⟩ | ⟨hm, rfl, g1⟩)
  · obtain ⟨bs, hbs⟩ : ∃ bs, bs = encP L := ⟨_, rfl⟩
    obtain ⟨m, hmm⟩ : ∃ m, m = bs.length := ⟨_, rfl⟩
    have hm8 := encP_mod L
    have hml := encP_le hm
    rw [← hbs, ← hmm] at o1 hm8 hml
    have m1 := hm8.2
    obtain ⟨U, hU⟩ : ∃ U, U = lgU s.S := ⟨_, rfl⟩
    have hU5 : U ≤ 504 := by rw [hU]; exact lgU_le
    have HM := Lib.hid hm
    have HO := Lib.hid o1
    have HG := Lib.hid g1
    have HBS := Lib.hid hbs
    have HMM := Lib.hid hmm
    have HUU := Lib.hid hU
    have H1 := Lib.hid (H.out.keep g1)
    rw [← hbs, ← hmm]
    clear hm o1 g1 hm8 hmm hbs hU
    go_wp2_with fail
    refine (rl_read H1.out).mono ?_
    rintro e w2 ⟨vr, Rr, rfl, -, -, g2⟩
    rw [← HUU.out]
    have H2 := Lib.hid (H1.out.keep g2)
    have HG2 := Lib.hid (HG.out.trans g2)
    have HO2 := Lib.hid (show Own w2 w.heap.size A1 m c1 bs from ⟨HO.out.1, HO.out.2.1, World.ownsRow.kept HO.out.2.2 g2.grown (own_none _)⟩)
    have c1 := H2.out.2.1.c3.2.1
    have c2 := H2.out.2.1.c3.2.2
    clear g2
    by_cases hf : 504 < U + m
    · have z1 : decide ((504 : Int) < (U : Int) + (m : Int)) = true := decide_eq_true (by omega)
      have z2 : decide (504 < U + m) = true := decide_eq_true hf
      have HE := Lib.hid (show apE s.S L = 5 by rw [apE, if_pos HM.out, ← HUU.out, ← HBS.out, ← HMM.out, if_pos hf])
      clear hf
      go_wp2_with fail
      go_ret
      exact ⟨ret_int (by rw [HE.out]), by rw [MS.append, if_neg (by rw [HE.out]; simp)]; exact H2.out, Turn.grow HG2.out _⟩
    · have z1 : decide ((504 : Int) < (U : Int) + (m : Int)) = false := decide_eq_false (by omega)
      have z2 : decide (504 < U + m) = false := decide_eq_false hf
      have hUm : U + m ≤ 504 := by omega
      have HE := Lib.hid (show apE s.S L = 0 by rw [apE, if_pos HM.out, ← HUU.out, ← HBS.out, ← HMM.out, if_neg hf])
      clear hf
      go_wp2_with fail
      refine (rl_keep H2.out HO2.out.sl (HO2.out.out HLT.out) _).mono ?_
      rintro e w3 ⟨rfl, h3, t3⟩
      have H3 := Lib.hid h3
      have HT3 := Lib.hid ((Turn.grow HG2.out x.F).and t3)
      have d1 := h3.2.1.c3.2.1
      clear h3 t3 c1 c2
      go_wp2_with fail
      have HA : ∀ w4 A4 c4, Own w4 w3.heap.size A4 8 c4 (leB (U + m) 8) → Grow w3 w4 → ∀ w5, Grow w4 w5 → Calls Try.prog 78 #[.pointer (some ⟨l, 0, none⟩), .int .i64 512, .slice A4 8 c4] w5 fun e w' => e = .returned (.tuple #[]) ∧ RL w' l x (s.append L) ∧ Turn x.F w w' := by
        intro w4 A4 c4 o4 g4 w5 g5
        have hx : ∀ k, x.F k → k < w3.heap.size := H3.out.1.lt
        refine (rl_keep (H3.out.keep (g4.trans g5)) (o4.sl.keep g5) (o4.out hx) 512).mono ?_
        rintro e w' ⟨rfl, h5, t5⟩
        refine ⟨rfl, ?_, (HT3.out.and (Turn.grow (g4.trans g5) _)).and t5⟩
        rw [MS.append, if_pos HE.out, ← HUU.out, ← HBS.out, ← HMM.out]
        exact h5
      have HAA := Lib.hid HA
      have y1 : IntKind.i64.wrap ((U : Int) + (m : Int)) = (U : Int) + (m : Int) := IntWalk.i64_in _ (by omega)
      clear HA
      go_region_held3 (fun w' => w'.cell? ⟨l, 1, none⟩ = some (.int .i64 512)) (first | exact d1 | exact f1 | exact g1) ((first
        | (go_at_call 20; refine (rput_end U m (by omega)).mono ?_; rintro e w4 ⟨A4, c4, rfl, o4, g4⟩; have G4 : Grow w3 w4 := Grow.trans (by (repeat (first | exact Grow.refl _ | refine Grow.drew ?_ | refine Grow.drewN ?_ _))) g4; have o4' := o4.low (B := w3.heap.size) (Nat.le_refl _); have f1 := G4.cell d1)
        | (go_at_call 78; refine (HAA.out w4 A4 c4 o4' G4 _ ?_).mono ?_; (repeat (first | exact Grow.refl _ | refine Grow.drew ?_ | refine Grow.drewN ?_ _)); rintro e w6 ⟨rfl, h6, t6⟩; have g1 := h6.2.1.c3.2.1)))
      all_goals
        clear g1
        have H6 := Lib.hid h6
        have HT6 := Lib.hid t6
        clear h6 t6
        go_wp2_with fail
        go_ret
        exact ⟨ret_int (by rw [HE.out]), H6.out, HT6.out⟩
  · have HE := Lib.hid (show apE s.S L = 1 by rw [apE, hm]; rfl)
    have HG := Lib.hid g1
    clear hm g1
    go_wp2_with fail
    go_ret
    exact ⟨ret_int (by rw [HE.out]), by rw [MS.append, if_neg (by rw [HE.out]; simp)]; exact H.out.keep HG.out, Turn.grow HG.out _⟩
end Go.Proofs.Ytlinlmimakealaa

namespace Go.Proofs.Ytlinlmimakealaa
open Go.RowKit

set_option maxHeartbeats 1000000 in
theorem pats_same {A A' : Option Addr} {n c c' : Nat} {L : List PT} {w : World} (hx : RP w A n L) (hy : RP w A' n L) (hn : n ≤ 60000) :
    Calls Try.prog 54 #[.slice A n c, .slice A' n c'] w fun e w' => e = .returned (.bool true) ∧ ∃ k, w' = w.drewN k := by
  have k0 : ((n : Int) != (n : Int)) = false := by simp
  go_enter Try.func54, Try.ntmps54
  go_wp2_with fail
  go_loopw [5] (fun i wr => ∃ k m : Nat, k ≤ n ∧ i = .int .i64 k ∧ wr = w.drewN m) (fun i _ => n - (intOf i).toNat)
  case atStart => exact ⟨0, 0, Nat.zero_le _, rfl, rfl⟩
  case round =>
    obtain ⟨k, m, hk, rfl, rfl⟩ := hrel
    by_cases hlt : k < n
    · obtain ⟨b, o, r, hr, rfl, -, c1, c2⟩ := hx.at_ hlt
      obtain ⟨b', o', r', hr', rfl, -, d1, d2⟩ := hy.at_ hlt
      obtain rfl : r = r' := by rw [hr] at hr'; injection hr'
      clear hr hr'
      go_wp2_with fail
      go_quiet (fail)
      go_wp2_with fail
      go_roundw
      case rel => exact ⟨k + 1, _, by omega, by go_num, rfl⟩
      case measure => simp [intOf]; omega
    · go_wp2_with fail
      go_ret
      exact ⟨rfl, _, rfl⟩

/-- A slice that reads as rows of patches. -/
def RV (w : World) (A : Option Addr) (n : Nat) (R : List RW) : Prop := R.length = n ∧ n ≤ 1000000 ∧ Rd w w.heap.size A 1 n (R.map RW.v) ∧ ∀ r ∈ R, OP w 0 r.v r.L
section
variable {w w' : World} {A : Option Addr} {n base : Nat} {R : List RW} {v : Value}
theorem RV.keep (h : RV w A n R) (g : Grow w w') : RV w' A n R := ⟨h.1, h.2.1, (Rd.below h.2.2.1 g).more g.size, fun r hr => (h.2.2.2 r hr).keep g⟩
theorem RV.at_ (h : RV w A n R) {i : Nat} (hi : i < n) : ∃ b o r, R[i]? = some r ∧ A = some ⟨b, o, none⟩ ∧ b < w.heap.size ∧ w.cell? ⟨b, o + i, none⟩ = some r.v ∧ OP w 0 r.v r.L := by
  obtain ⟨hn, -, ⟨hl, hr⟩, ho⟩ := h
  obtain ⟨b, o, rfl, hb, hc⟩ := hr (by omega)
  have hi' : i < R.length := by omega
  exact ⟨b, o, R[i], by simp [hi'], rfl, hb, hc i _ (by simp [hi']), ho _ (List.getElem_mem _)⟩
theorem RV.take (h : RV w A n R) {k : Nat} (hk : k ≤ n) : RV w A k (R.take k) := by
  obtain ⟨h1, h2, h3, h4⟩ := h
  refine ⟨by rw [List.length_take]; omega, by omega, ?_, fun r hr => h4 r (List.mem_of_mem_take hr)⟩
  have := Rd.take h3 hk
  rw [Nat.mul_one] at this
  rw [List.map_take]
  exact this
theorem OW.rv (h : OW w base v R) (hn : R.length ≤ 1000000) : ∃ A c, v = .slice A R.length c ∧ R.length ≤ c ∧ RV w A R.length R := by
  obtain ⟨A, c, rfl, h1, -, -, -⟩ := own_form h.1
  exact ⟨A, c, rfl, h1, rfl, hn, Rd.of_own h.1, fun r hr => (h.2.1 r hr).low (Nat.zero_le _)⟩
end

end Go.Proofs.Ytlinlmimakealaa
