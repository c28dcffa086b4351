/- commonsref09.Txn.Load: byte by byte. Commit of the document's transaction. plog.New, and where the document has a log. commonslaw08.lives. No statement of the seat is proved here. -/
import Derived.Test.YtlinlmimakealaaZ18
import Derived.Test.YtlinlmimakealaaZ13
import Derived.Test.YtlinlmimakealaaZ08
import Derived.Test.YtlinlmimakealaaZ14
import Derived.Test.YtlinlmimakealaaZ06
import Derived.Test.YtlinlmimakealaaZ12
namespace Go.Proofs.Ytlinlmimakealaa
open Go.RowKit

/-- The first k bytes of a patch, laid over. -/
def OvAt (b' b : List UInt8) (a : Nat) (p : PT) (k : Nat) : Prop := b'.length = b.length ∧ ∀ j, j < b.length → b'.getD j 0 = if p.pos.toNat ≤ a + j ∧ a + j < p.pos.toNat + k then p.txt.getD (a + j - p.pos.toNat) 0 else b.getD j 0
theorem OvAt.start (b : List UInt8) (a : Nat) (p : PT) : OvAt b b a p 0 := ⟨rfl, fun j _ => by rw [if_neg (by omega)]⟩
theorem OvAt.done {b' b : List UInt8} {a : Nat} {p : PT} (h : OvAt b' b a p p.dat.size) : b' = ovB b a p := ovB_ext h.1 h.2
theorem OvAt.skip {b' b : List UInt8} {a : Nat} {p : PT} {k : Nat} (h : OvAt b' b a p k) (hx : ∀ j, j < b.length → a + j ≠ p.pos.toNat + k) : OvAt b' b a p (k + 1) :=
  ⟨h.1, fun j hj => by
    rw [h.2 j hj]
    have := hx j hj
    by_cases q : p.pos.toNat ≤ a + j ∧ a + j < p.pos.toNat + k
    · rw [if_pos q, if_pos (by omega)]
    · rw [if_neg q, if_neg (by omega)]⟩
theorem OvAt.set {b' b : List UInt8} {a : Nat} {p : PT} {k : Nat} (h : OvAt b' b a p k) {i : Nat} (hi : i < b.length) (hx : a + i = p.pos.toNat + k) : OvAt (b'.set i (p.txt.getD k 0)) b a p (k + 1) := by
  refine ⟨by rw [List.length_set]; exact h.1, fun j hj => ?_⟩
  have hl := h.1
  by_cases e : j = i
  · subst e
    rw [if_pos (by omega), show a + j - p.pos.toNat = k by omega]
    rw [List.getD_eq_getElem?_getD, List.getElem?_set_self (by omega)]
    rfl
  · have := h.2 j hj
    simp only [List.getD_eq_getElem?_getD, List.getElem?_set] at this ⊢
    rw [if_neg (fun q => e q.symm), this]
    by_cases q : p.pos.toNat ≤ a + j ∧ a + j < p.pos.toNat + k
    · rw [if_pos q, if_pos (by omega)]
    · rw [if_neg q, if_neg (by omega)]
theorem txt_at (q : Int) (dat : ByteArray) (k : Nat) (hk : k < dat.size) : (⟨q, dat⟩ : PT).txt.getD k 0 = dat[k] := by
  have h : k < dat.data.toList.length := by rw [Array.length_toList]; exact hk
  rw [PT.txt, List.getD_eq_getElem?_getD, List.getElem?_eq_getElem h]
  rfl
def RIn (w1 wr : World) (B : Nat) (A : Option Addr) (m c ka : Nat) (b : List UInt8) (p : PT) (t : Value) : Prop := ∃ (k : Nat) (b' : List UInt8), t = .int .i64 (k : Int) ∧ k ≤ p.dat.size ∧ Own wr B A m c b' ∧ OvAt b' b ka p k ∧ Turn (BlkA A) w1 wr

set_option maxHeartbeats 4000000 in
set_option maxRecDepth 4000 in
theorem rx_load {w : World} {base t l : Nat} {x : MB} {s : MS} {L : List PT} {v : Value} (h : RX w base t l x s L v) (hs : s.S.length = 1024) (a n : Int) :
    Calls Try.prog 52 #[.pointer (some ⟨t, 0, none⟩), .int .i64 a, .int .i64 n] w fun e w' => ∃ A c, e = .returned (.tuple #[.slice A (loadM 128 a n) c, .int .i64 (errV (inW 1024 a n))]) ∧ Own w' w.heap.size A (loadM 128 a n) c (lodL s L a n) ∧ Grow w w' := by
  obtain ⟨Av, cv, rfl, hcv⟩ := h.row.form
  have H := Lib.hid h
  have c0 := h.blk.1.2 0 _ rfl
  have c2 := h.blk.1.2 2 _ rfl
  have hfew := h.held.few
  obtain ⟨m, hm⟩ : ∃ m, m = loadM 128 a n := ⟨_, rfl⟩
  obtain ⟨ka, hka⟩ : ∃ k, k = a.toNat := ⟨_, rfl⟩
  obtain ⟨bs, hbs⟩ : ∃ bs, bs = loadL 128 s.S a n := ⟨_, rfl⟩
  obtain ⟨er, her⟩ : ∃ z, z = errV (inW 1024 a n) := ⟨_, rfl⟩
  have HLL := Lib.hid (show lodL s L a n = ovL bs ka L by rw [hbs, hka]; rfl)
  have HBL := Lib.hid (show bs.length = m ∧ m ≤ 1024 ∧ (0 < m → a = (ka : Int) ∧ ka + m ≤ 1024) by
    cases hin : inW 1024 a n with
    | false =>
      have hm0 : m = 0 := by rw [hm]; unfold loadM; rw [show (8 * 128 : Nat) = 1024 from rfl, hin]; rfl
      rw [hbs, (lod_no hin L).2, hm0]
      exact ⟨rfl, by omega, fun q => by omega⟩
    | true =>
      have hm0 : m = n.toNat := by rw [hm]; unfold loadM; rw [show (8 * 128 : Nat) = 1024 from rfl, hin]; rfl
      obtain ⟨h1, h2, h3⟩ := inW_iff.1 hin
      rw [hbs, lod_in hs hin, hm0]
      exact ⟨rfl, by omega, fun q => by omega⟩)
  have HM := Lib.hid hm
  have HBS := Lib.hid hbs
  have HER := Lib.hid her
  clear h hm hbs hka her
  go_enter Try.func52, Try.ntmps52
  go_wp2_with fail
  refine (rm_loadU H.out.lg.1 a n).mono ?_
  rintro e w1 ⟨A1, c1, rfl, o1, g1⟩
  rw [show (8 * 128 : Nat) = 1024 from rfl, ← HM.out, ← HER.out]
  rw [← HM.out, ← HBS.out] at o1
  have O1 := Lib.hid o1
  have G1 := Lib.hid g1
  have H1 := Lib.hid (H.out.keep g1)
  have HAB := Lib.hid o1.blkA
  obtain ⟨Ax, cx, ex, -, rx⟩ := H1.out.row.rp (by omega)
  injection ex with ex1 ex2 ex3
  subst ex1
  have RX1 := Lib.hid rx
  have HNA := Lib.hid (show 0 < L.length → ∀ p, Av = some p → ¬ BlkA A1 p.block from fun _ p hp q => by
    have q1 := (HAB.out _ q).1
    have q2 := (World.ownsRow.lt H.out.row p.block (by rw [hp]; rfl)).2
    omega)
  have HNT := Lib.hid (show ¬ BlkA A1 t from fun q => by
    have q1 := (HAB.out _ q).1
    have := H.out.blk.1.1
    omega)
  obtain ⟨N, hN⟩ : ∃ N, N = L.length := ⟨_, rfl⟩
  rw [← hN] at RX1 HNA hfew c2
  have HD2 := Lib.hid (g1.cell c2)
  have HN := Lib.hid hN
  clear o1 g1 rx ex2 ex3 c0 c2 hcv hN
  go_wp2_with fail
  go_loopw [10] (fun t wr => LoadInv w1 wr w.heap.size A1 m c1 ka bs L t) (fun t _ => N - (intOf t).toNat)
  case atStart => exact ⟨0, rfl, Nat.zero_le _, O1.out, Turn.refl _ _⟩
  case round =>
    obtain ⟨i, rfl, hi, ho, ht⟩ := hrel
    have HO := Lib.hid ho
    have HT := Lib.hid ht
    have hi' : i ≤ N := by have := HN.out; omega
    have d2 := ht.cell' HD2.out HNT.out
    clear ho ht hi
    by_cases hlt : i < N
    · have R2 := RX1.out.turn HT.out HNA.out
      obtain ⟨b, o, r, hrk, rfl, hb, e0, e1⟩ := R2.at_ hlt
      obtain ⟨f1, f2, f3⟩ := H.out.held.fit r (List.mem_of_getElem? hrk)
      have HST := Lib.hid (ovL_step (bs := bs) (a := ka) hrk)
      have HRK := Lib.hid hrk
      obtain ⟨pos, dat⟩ := r
      simp only at f1 f2 f3 e0 e1
      obtain ⟨q, rfl⟩ : ∃ q : Nat, pos = (q : Int) := ⟨pos.toNat, by omega⟩
      have hq : q ≤ 1024 := by omega
      have hsz : dat.size ≤ 256 := f3
      have HNB := Lib.hid (HNA.out (by omega) _ rfl)
      obtain ⟨bb, hbb⟩ : ∃ z, z = ovL bs ka (L.take i) := ⟨_, rfl⟩
      rw [← hbb] at HO HST
      have HBB := Lib.hid (show bb.length = m by rw [hbb, ovL_length]; exact HBL.out.1)
      have HE0 := Lib.hid (And.intro e0 (And.intro e1 d2))
      clear hrk R2 f1 f2 f3 hbb
      go_wp2_with fail
      go_loopw [11] (fun t wx => RIn w1 wx w.heap.size A1 m c1 ka bb ⟨(q : Int), dat⟩ t) (fun t _ => dat.size - (intOf t).toNat)
      case atStart => exact ⟨0, bb, rfl, Nat.zero_le _, HO.out, OvAt.start _ _ _, HT.out⟩
      case round =>
        obtain ⟨k, b', rfl, hk, ho, hov, ht⟩ := hrel
        have HO2 := Lib.hid ho
        have HOV := Lib.hid hov
        have HT2 := Lib.hid ht
        have hk' : k ≤ dat.size := hk
        have R3 := RX1.out.turn HT2.out HNA.out
        have d2 := HT2.out.cell' HD2.out HNT.out
        obtain ⟨bz, oz, rz, hrz, ez, hbz, d0, d1⟩ := R3.at_ hlt
        injection ez with ez
        injection ez with ez1 ez2
        subst ez1 ez2
        rw [HRK.out] at hrz
        injection hrz with hrz
        subst hrz
        simp only at d0 d1
        have e1 : wrap64 ((q : Int) + (k : Int)) = (q : Int) + (k : Int) := IntWalk.wrap64_in _ (by omega)
        clear ho hov ht R3 hk hbz
        by_cases hlt2 : k < dat.size
        · obtain ⟨X, hX⟩ : ∃ X, X = wrap64 ((q : Int) + (k : Int) - a) := ⟨_, rfl⟩
          have HX := Lib.hid hX
          have y1 : wrap64 ((q : Int) + (k : Int) - a) = X := hX.symm
          clear hX
          by_cases hx0 : 0 ≤ X
          · by_cases hxm : X < (m : Int)
            · obtain ⟨j, rfl⟩ : ∃ j : Nat, X = (j : Int) := ⟨X.toNat, by omega⟩
              have hjm : j < m := by omega
              obtain ⟨g, rfl, hg1, hg2⟩ := HO2.out.row (by omega)
              obtain ⟨k1, k2⟩ := HO2.out.look j hjm
              obtain ⟨u, hu⟩ := Option.isSome_iff_exists.1 k1
              have HJ := Lib.hid (show ka + j = q + k by
                obtain ⟨-, hm2, hm3⟩ := HBL.out
                obtain ⟨hz1, hz2⟩ := hm3 (by omega)
                have hz3 := HX.out
                rw [hz1, IntWalk.wrap64_in _ (by omega)] at hz3
                omega)
              have hv := HOV.out.set (i := j) (by rw [HBB.out]; exact hjm) HJ.out
              rw [txt_at _ _ _ hlt2] at hv
              have HV := Lib.hid hv
              clear k1 hv
              go_wp2_with fail
              go_roundw
              have e5 : wrap64 ((k : Int) + 1) = (k : Int) + 1 := IntWalk.wrap64_in _ (by omega)
              case rel => (try rw [e5]); exact ⟨k + 1, _, by simp, hlt2, HO2.out.set1 j (dat[k]), HV.out, HT2.out.set ⟨g, j, none⟩ ⟨⟨g, 0, none⟩, rfl, rfl⟩ _⟩
              case measure => (have e5 : wrap64 ((k : Int) + 1) = (k : Int) + 1 := IntWalk.wrap64_in _ (by omega)); first | exact measF hlt2 | exact measFW hlt2 e5
            · have z2 : decide (X < (m : Int)) = false := decide_eq_false hxm
              have HV := Lib.hid (HOV.out.skip (fun j hj he => by
                obtain ⟨-, hm2, hm3⟩ := HBL.out
                rw [HBB.out] at hj
                obtain ⟨hz1, hz2⟩ := hm3 (by omega)
                have hz3 := HX.out
                simp only [Int.toNat_natCast] at he
                rw [hz1, IntWalk.wrap64_in _ (by omega)] at hz3
                omega))
              go_wp2_with fail
              go_roundw
              have e5 : wrap64 ((k : Int) + 1) = (k : Int) + 1 := IntWalk.wrap64_in _ (by omega)
              case rel => (try rw [e5]); exact ⟨k + 1, _, by simp, hlt2, HO2.out, HV.out, HT2.out⟩
              case measure => (have e5 : wrap64 ((k : Int) + 1) = (k : Int) + 1 := IntWalk.wrap64_in _ (by omega)); first | exact measF hlt2 | exact measFW hlt2 e5
          · have z1 : decide (0 ≤ X) = false := decide_eq_false hx0
            have HV := Lib.hid (HOV.out.skip (fun j hj he => by
              obtain ⟨-, hm2, hm3⟩ := HBL.out
              rw [HBB.out] at hj
              obtain ⟨hz1, hz2⟩ := hm3 (by omega)
              have hz3 := HX.out
              simp only [Int.toNat_natCast] at he
              rw [hz1, IntWalk.wrap64_in _ (by omega)] at hz3
              omega))
            go_wp2_with fail
            go_roundw
            have e5 : wrap64 ((k : Int) + 1) = (k : Int) + 1 := IntWalk.wrap64_in _ (by omega)
            case rel => (try rw [e5]); exact ⟨k + 1, _, by simp, hlt2, HO2.out, HV.out, HT2.out⟩
            case measure => (have e5 : wrap64 ((k : Int) + 1) = (k : Int) + 1 := IntWalk.wrap64_in _ (by omega)); first | exact measF hlt2 | exact measFW hlt2 e5
        · have HE := Lib.hid (show b' = ovB bb ka ⟨(q : Int), dat⟩ from (show k = dat.size by omega) ▸ HOV.out |>.done)
          have HX := Lib.hid (show LoadInv w1 wr w.heap.size A1 m c1 ka bs L (.int .i64 ((i : Int) + 1)) from ⟨i + 1, by simp, by have := HN.out; omega, by rw [HST.out, ← HE.out]; exact HO2.out, HT2.out⟩)
          go_wp2_with fail
          go_roundw
          have e5 : wrap64 ((i : Int) + 1) = (i : Int) + 1 := IntWalk.wrap64_in _ (by omega)
          case rel => (try rw [e5]); first | exact HX.out | ((repeat apply Exists.intro); exact HX.out) | ((repeat apply Exists.intro); refine ⟨HX.out, ?_⟩; rfl)
          case measure => (have e5 : wrap64 ((i : Int) + 1) = (i : Int) + 1 := IntWalk.wrap64_in _ (by omega)); first | exact measF hlt | exact measFW hlt e5
    · have HE := Lib.hid (show ovL bs ka (L.take i) = ovL bs ka L by rw [List.take_of_length_le (by have := HN.out; omega)])
      go_wp2_with fail
      go_ret2
      refine ⟨A1, c1, by rw [← HM.out, ← HER.out]; rfl, ?_, G1.out.low (HT.out.low (fun i q => (HAB.out i q).1) G1.out.size)⟩
      rw [HLL.out, ← HM.out, ← HE.out]
      exact HO.out
end Go.Proofs.Ytlinlmimakealaa

namespace Go.Proofs.Ytlinlmimakealaa
open Go.RowKit

set_option maxHeartbeats 2000000 in
theorem rx_commit {w : World} {base t l : Nat} {x : MB} {s : MS} {L : List PT} {v : Value} (h : RX w base t l x s L v) :
    Calls Try.prog 49 #[.pointer (some ⟨t, 0, none⟩)] w fun e w' => e = .returned (.int .i64 (cmE s L)) ∧ ∃ v', RX w' base t l x (cmS s L) (cmL s L) v' ∧ Turn (fun k => x.F k ∨ k = t) w w' ∧ (v'.ownBlock = none ∨ v' = v) := by
  obtain ⟨Av, cv, rfl, hcv⟩ := h.row.form
  have H := Lib.hid h
  have c1 := h.blk.1.2 1 _ rfl
  have c2 := h.blk.1.2 2 _ rfl
  have hfew := h.held.few
  obtain ⟨Ax, cx, ex, -, rx⟩ := h.row.rp (by omega)
  injection ex with ex1 ex2 ex3
  subst ex1
  have R := Lib.hid rx
  clear rx ex2 ex3 hcv h
  by_cases h0 : L.length = 0
  · have HCE := Lib.hid (show cmE s L = 0 by unfold cmE; rw [if_pos h0])
    have HCS := Lib.hid (show cmS s L = s by unfold cmS; rw [if_pos h0])
    have HCL := Lib.hid (show cmL s L = L by unfold cmL; rw [if_pos h0]; exact (List.eq_nil_of_length_eq_zero h0).symm)
    rw [h0] at c2
    go_enter Try.func49, Try.ntmps49
    go_wp2_with fail
    go_ret
    exact ⟨by rw [HCE.out]; rfl, _, by rw [HCS.out, HCL.out]; exact H.out, Turn.refl _ _, .inr rfl⟩
  · have z0 : ¬ (L.length : Int) = 0 := by omega
    have z1 : decide ((L.length : Int) = 0) = false := decide_eq_false z0
    obtain ⟨E, hE⟩ : ∃ E, E = apE s.S L := ⟨_, rfl⟩
    have HE := Lib.hid hE
    obtain ⟨N, hN⟩ : ∃ N, N = L.length := ⟨_, rfl⟩
    rw [← hN] at R c2 z0 z1
    have HN := Lib.hid hN
    clear hE hN
    go_enter Try.func49, Try.ntmps49
    go_wp2_with fail
    go_region_held3 (fun w' => w'.cell? ⟨t, 1, none⟩ = some (.pointer (some ⟨l, 0, none⟩)) ∧ w'.cell? ⟨t, 2, none⟩ = some (.slice Av N cv)) (first | exact ⟨c1, c2⟩ | exact hsA) ((first
      | (go_at_call 68; go_loud (refine (rl_append (H.out.lg.keep ?_) (R.out.keep ?_) H.out.held.wide).mono ?_; (repeat (first | exact Grow.refl _ | refine Grow.drew ?_ | refine Grow.drewN ?_ _)); rintro e w5 ⟨rfl, h5, t5'⟩; have t5 : Turn x.F w w5 := (Turn.grow (show Grow w _ by (repeat (first | exact Grow.refl _ | refine Grow.drew ?_ | refine Grow.drewN ?_ _))) x.F).and t5'; have hsA := And.intro (t5.cell' c1 H.out.xt) (t5.cell' c2 H.out.xt); rw [← HE.out]; clear t5'))))
    all_goals
      have H5 := Lib.hid (H.out.mem h5 t5)
      have T5 := Lib.hid t5
      have k1 := hsA.1
      clear h5 t5 hsA c1 c2
      by_cases hE0 : E = 0
      · have HCE := Lib.hid (show cmE s L = 0 by unfold cmE; rw [if_neg h0, ← HE.out, hE0])
        have HCS := Lib.hid (show cmS s L = (s.append L).redo by unfold cmS; rw [if_neg h0, if_pos (by rw [← HE.out, hE0])])
        have HCL := Lib.hid (show cmL s L = [] by unfold cmL; rw [if_neg h0, if_pos (by rw [← HE.out, hE0])])
        subst hE0
        go_wp2_with fail
        refine (rl_redo H5.out.lg).mono ?_
        rintro e w7 ⟨rfl, h7, t7⟩
        have H7 := Lib.hid (H5.out.mem h7 t7)
        have T7 := Lib.hid ((T5.out.and t7).mono (G := fun k => x.F k ∨ k = t) fun i q => .inl q)
        clear h7 t7 k1
        have f7 := H7.out.blk.2 2 (by simp)
        have d7 := H7.out.blk.1.2 2 _ rfl
        go_wp2_with fail
        go_ret
        exact ⟨by rw [HCE.out]; rfl, _, by rw [HCS.out, HCL.out]; exact H7.out.put (OP.nil _ _) (Turn.refl _ _) (.inr fun g hg => by cases hg) Held.nil, T7.out.and (Turn.setCell (F := fun k => x.F k ∨ k = t) _ (p := ⟨t, 2, none⟩) (.inr rfl) _), .inl rfl⟩
      · have HCE := Lib.hid (show cmE s L = E by unfold cmE; rw [if_neg h0, ← HE.out])
        have HCS := Lib.hid (show cmS s L = s.append L by unfold cmS; rw [if_neg h0, if_neg (by rw [← HE.out]; exact hE0)]; rw [MS.append, if_neg (by rw [← HE.out]; exact hE0)])
        have HCL := Lib.hid (show cmL s L = L by unfold cmL; rw [if_neg h0, if_neg (by rw [← HE.out]; exact hE0)])
        have z2 : decide (E = 0) = false := decide_eq_false hE0
        go_wp2_with fail
        go_ret
        exact ⟨by rw [HCE.out]; rfl, _, by rw [HCS.out, HCL.out]; exact H5.out, T5.out.mono fun i q => .inl q, .inr rfl⟩
end Go.Proofs.Ytlinlmimakealaa

namespace Go.Proofs.Ytlinlmimakealaa
open Go.RowKit

def mayLG (n a s : Int) : Bool := decide (0 ≤ a ∧ a % 64 = 0 ∧ 128 ≤ s ∧ s ≤ 65536 ∧ s % 64 = 0 ∧ a ≤ n ∧ s ≤ n - a)
theorem mayLG_iff {n a s : Int} : mayLG n a s = true ↔ 0 ≤ a ∧ a % 64 = 0 ∧ 128 ≤ s ∧ s ≤ 65536 ∧ s % 64 = 0 ∧ a ≤ n ∧ s ≤ n - a := by simp [mayLG]
theorem tm64 {a : Int} (h : 0 ≤ a) : Int.tmod a 64 = a % 64 := Int.tmod_eq_emod_of_nonneg h
theorem ne_f {a : Int} (h : a = 0) : (a != 0) = false := by rw [h]; rfl
theorem ne_t {a : Int} (h : a ≠ 0) : (a != 0) = true := by rw [bne_iff_ne]; exact h
theorem eq_f {a : Int} (h : a ≠ 0) : (a == 0) = false := by rw [beq_eq_false_iff_ne]; exact h
theorem eq_t {a : Int} (h : a = 0) : (a == 0) = true := by rw [h]; rfl

theorem pl_new_nil (a s : Int) (w : World) : Calls Try.prog 29 #[.pointer none, .int .i64 a, .int .i64 s] w fun e w' => e = .returned (.pointer none) ∧ w = w' := by
  go_enter Try.func29, Try.ntmps29
  go_wp2_with fail
  go_ret
  exact ⟨rfl, rfl⟩

set_option maxHeartbeats 2000000 in
theorem pl_new {w : World} {x : MB} {N : Nat} {S T : List UInt8} {A : List Bool} (h : PM w x N S T A) (a s : Int) :
    Calls Try.prog 29 #[.pointer (some ⟨x.p, 0, none⟩), .int .i64 a, .int .i64 s] w fun e w' => (mayLG ((N : Int) * 8) a s = false ∧ e = .returned (.pointer none) ∧ w = w') ∨ (mayLG ((N : Int) * 8) a s = true ∧ ∃ l, e = .returned (.pointer (some ⟨l, 0, none⟩)) ∧ w.heap.size ≤ l ∧ Blk w' l [.pointer (some ⟨x.p, 0, none⟩), .int .i64 a, .int .i64 s] ∧ Grow w w') := by
  obtain ⟨hN1, hN2, hN3⟩ := h.bound
  have H := Lib.hid h
  clear h
  by_cases q0 : a < 0
  · have HM := Lib.hid (show mayLG ((N : Int) * 8) a s = false by rw [Bool.eq_false_iff]; intro m; have := mayLG_iff.1 m; omega)
    have y0 : decide (a < 0) = true := decide_eq_true q0
    clear hN1 hN2 hN3 q0
    go_enter Try.func29, Try.ntmps29
    go_wp2_with fail
    go_ret
    exact .inl ⟨HM.out, rfl, rfl⟩
  have z00 : decide (a < 0) = false := decide_eq_false q0
  by_cases q1 : s < 128
  · have HM := Lib.hid (show mayLG ((N : Int) * 8) a s = false by rw [Bool.eq_false_iff]; intro m; have := mayLG_iff.1 m; omega)
    have y0 : decide (s < 128) = true := decide_eq_true q1
    clear hN1 hN2 hN3 q0 q1
    go_enter Try.func29, Try.ntmps29
    go_wp2_with fail
    go_ret
    exact .inl ⟨HM.out, rfl, rfl⟩
  have z10 : decide (s < 128) = false := decide_eq_false q1
  by_cases q2 : 65536 < s
  · have HM := Lib.hid (show mayLG ((N : Int) * 8) a s = false by rw [Bool.eq_false_iff]; intro m; have := mayLG_iff.1 m; omega)
    have y0 : decide (65536 < s) = true := decide_eq_true q2
    clear hN1 hN2 hN3 q0 q1 q2
    go_enter Try.func29, Try.ntmps29
    go_wp2_with fail
    go_ret
    exact .inl ⟨HM.out, rfl, rfl⟩
  have z20 : decide (65536 < s) = false := decide_eq_false q2
  by_cases q3 : a % 64 ≠ 0
  · have HM := Lib.hid (show mayLG ((N : Int) * 8) a s = false by rw [Bool.eq_false_iff]; intro m; have := mayLG_iff.1 m; omega)
    have y0 : (Int.tmod a 64 != 0) = true := by rw [tm64 (by omega)]; exact ne_t q3
    have y1 : (a % 64 != 0) = true := ne_t q3
    clear hN1 hN2 hN3 q0 q1 q2 q3
    go_enter Try.func29, Try.ntmps29
    go_wp2_with fail
    go_ret
    exact .inl ⟨HM.out, rfl, rfl⟩
  have z30 : (Int.tmod a 64 != 0) = false := by rw [tm64 (by omega)]; exact ne_f (Decidable.byContradiction q3)
  have z31 : (a % 64 != 0) = false := ne_f (Decidable.byContradiction q3)
  by_cases q4 : s % 64 ≠ 0
  · have HM := Lib.hid (show mayLG ((N : Int) * 8) a s = false by rw [Bool.eq_false_iff]; intro m; have := mayLG_iff.1 m; omega)
    have y0 : (Int.tmod s 64 != 0) = true := by rw [tm64 (by omega)]; exact ne_t q4
    have y1 : (s % 64 != 0) = true := ne_t q4
    clear hN1 hN2 hN3 q0 q1 q2 q3 q4
    go_enter Try.func29, Try.ntmps29
    go_wp2_with fail
    go_ret
    exact .inl ⟨HM.out, rfl, rfl⟩
  have z40 : (Int.tmod s 64 != 0) = false := by rw [tm64 (by omega)]; exact ne_f (Decidable.byContradiction q4)
  have z41 : (s % 64 != 0) = false := ne_f (Decidable.byContradiction q4)
  have g1 : 0 ≤ a := by omega
  have g2 : 128 ≤ s := by omega
  have g3 : s ≤ 65536 := by omega
  by_cases q5 : (N : Int) * 8 - s < a
  · have HM := Lib.hid (show mayLG ((N : Int) * 8) a s = false by rw [Bool.eq_false_iff]; intro m; have := mayLG_iff.1 m; omega)
    have y0 : decide ((N : Int) * 8 - s < a) = true := decide_eq_true q5
    clear hN1 q0 q1 q2 q3 q4 q5
    go_enter Try.func29, Try.ntmps29
    go_wp2_with fail
    refine (pm_size H.out).mono ?_
    rintro e w' ⟨rfl, rfl⟩
    go_wp2_with fail
    go_ret
    exact .inl ⟨HM.out, rfl, rfl⟩
  · have HM := Lib.hid (show mayLG ((N : Int) * 8) a s = true from mayLG_iff.2 ⟨by omega, by omega, by omega, by omega, by omega, by omega, by omega⟩)
    have y0 : decide ((N : Int) * 8 - s < a) = false := decide_eq_false q5
    clear hN1 q0 q1 q2 q3 q4 q5
    go_enter Try.func29, Try.ntmps29
    go_wp2_with fail
    refine (pm_size H.out).mono ?_
    rintro e w' ⟨rfl, rfl⟩
    go_wp2_with fail
    go_ret
    exact .inr ⟨HM.out, w.heap.size, rfl, Nat.le_refl _, Blk.new w _ _ _ (0, 0) rfl, (Grow.refl w).alloc _⟩

end Go.Proofs.Ytlinlmimakealaa

namespace Go.Proofs.Ytlinlmimakealaa
open Go.RowKit

theorem RP.lit (w : World) (t : TypeId) (p : PT) : RP (w.alloc (.cells #[.int .i64 p.pos, .string p.dat] t)) (some ⟨w.heap.size, 0, none⟩) 1 [p] :=
  ⟨rfl, by omega, by have := Rd.litP w t (pcs [p]) 2 1 rfl; rw [World.size_alloc]; exact this⟩

/-- The memory as it is made. -/
def fresh : MS := ⟨List.replicate (8 * 128) 0, List.replicate (8 * 128) 0, List.replicate 128 false⟩
theorem fresh_ok : fresh.ok := ⟨List.length_replicate, List.length_replicate, List.length_replicate⟩
theorem fresh_still : fresh.still := rfl
theorem fresh_log : lgE fresh.S = 0 ∧ lgL fresh.S = [] ∧ lgU fresh.S = 0 := by
  have e : fresh.S = List.replicate 512 0 ++ (leB (0 : Int).toNat 8 ++ List.replicate 504 0) := by
    rw [show leB (0 : Int).toNat 8 = List.replicate 8 0 from rfl, List.replicate_append_replicate, List.replicate_append_replicate]; rfl
  have g := (get_mid (bs := fresh.S) (a := 512) (wd := 8) e List.length_replicate (by decide) (by decide)).1
  have g1 : getN fresh.S 512 8 = 0 := g
  have h : lgE fresh.S = 0 := by rw [lgE, g1]; rfl
  have hB : lgB fresh.S = [] := by rw [lgB, h]; rfl
  exact ⟨h, by rw [lgL, hB, rc_nil.1], by rw [lgU, hB, rc_nil.2]⟩
def pX : PT := ⟨3, ⟨#[120]⟩⟩
def pY : PT := ⟨258, ⟨#[5]⟩⟩
theorem encP_pX : (encP [pX]).length = 16 := by rw [encP_length]; rfl
theorem encP_pY : (encP [pY]).length = 16 ∧ (encP [pY]).take 9 = [1, 0, 2, 1, 0, 0, 1, 0, 5] ∧ (encP [pY]).drop 13 = [0, 0, 0] := by
  have hb : (bodyP [pY]).length = 9 := rfl
  have hs : (sumB (bodyP [pY])).length = 13 := by rw [sumB_length, hb]
  refine ⟨by rw [encP_length]; rfl, ?_, ?_⟩
  · rw [encP, sumB, List.append_assoc, List.take_left' hb]; rfl
  · rw [encP, List.drop_left' hs, hs]; rfl
theorem getD_one {S : List UInt8} {i : Nat} (h : i < S.length) : (S.drop i).take 1 = [S.getD i 0] := by
  rw [List.drop_eq_getElem_cons h, List.getD_eq_getElem?_getD, List.getElem?_eq_getElem h]; rfl
theorem live8 : apE fresh.S [pX] = 0 ∧ (lgL (fresh.append [pX]).S).length = 1 ∧ ((fresh.append [pX]).redo.T.drop 3).take 1 = [120] ∧ lgE (fresh.append [pX]).redo.S = 0 := by
  have h0 : apE fresh.S [pX] = 0 := apE_iff.2 ⟨by decide, by rw [fresh_log.2.2, encP_pX]; omega⟩
  obtain ⟨h1, h2, h3, -⟩ := append_is fresh_ok (MS.still_cov fresh_still) h0
  rw [fresh_log.2.1, List.nil_append] at h3
  obtain ⟨r1, r2, r3⟩ := redo_is h1 (MS.still_cov h2)
  refine ⟨h0, by rw [h3]; rfl, ?_, ?_⟩
  · rw [← show (fresh.append [pX]).redo.S = (fresh.append [pX]).redo.T from r2, getD_one (by rw [r1.S]; omega), r3, h3]
    have e : [[pX]].flatten.foldl patS (fresh.append [pX]).S = putL (fresh.append [pX]).S 3 [120] := rfl
    rw [e, putL_get _ _ _ _ (by rw [putL_length, h1.S]; decide), if_neg (by omega), putL_get _ _ _ _ (by rw [h1.S]; decide), if_pos (by decide)]
    rfl
  · rw [r3, h3]
    have e : [[pX]].flatten.foldl patS (fresh.append [pX]).S = putL (fresh.append [pX]).S 3 [120] := rfl
    rw [e]
    exact lgE_wiped (by rw [putL_length]; exact h1.S)

end Go.Proofs.Ytlinlmimakealaa
