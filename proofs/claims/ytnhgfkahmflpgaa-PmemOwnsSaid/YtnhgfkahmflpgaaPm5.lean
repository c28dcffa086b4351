/- pmem: Fence. No statement of the seat is proved here. -/
import Derived.Test.YtnhgfkahmflpgaaPm3
import Derived.Maps.RangeWalk
namespace Go.Proofs.Ytnhgfkahmflpgaa
open Go.RowKit Go.Maps

theorem owns_unique {w : World} {b n n' : Nat} {D D' : DataW Unit} (h : w.ownsMap Try.prog 3 (plainElem Try.prog 4) b n D) (h' : w.ownsMap Try.prog 3 (plainElem Try.prog 4) b n' D') : D = D' := by
  obtain ⟨es, clock, h1, -, -, h4⟩ := h
  obtain ⟨es', clock', h1', -, -, h4'⟩ := h'
  rw [h1] at h1'
  injection h1' with h1'
  injection h1' with e1 e2
  subst e1
  rw [h4, h4']
theorem ranges_same {w w' : World} {b r n cnt : Nat} {D : DataW Unit} {left : Lit → Bool} (h : w.ranges Try.prog 3 (plainElem Try.prog 4) b r n D left cnt) (hb : w'.heap[b]? = w.heap[b]?) (hr : w'.heap[r]? = w.heap[r]?) : w'.ranges Try.prog 3 (plainElem Try.prog 4) b r n D left cnt := by
  obtain ⟨es, clock, since, seen, c0, h1, h2, h3, h4, h5, h6⟩ := h
  exact ⟨es, clock, since, seen, c0, hb.trans h1, h2, h3, h4, hr.trans h5, h6⟩
theorem Turn.set {F : Nat → Prop} {a b : World} (h : Turn F a b) (p : Addr) (hp : F p.block) (v : Value) : Turn F a (b.setCell p v) := h.and (Turn.setCell b hp v)
theorem turn8 (w : World) (g : Nat) (o0 o1 o2 o3 o4 o5 o6 o7 : Nat) (v0 v1 v2 v3 v4 v5 v6 v7 : Value) :
    Turn (fun i => i = g) w ((((((((w.setCell ⟨g, o0, none⟩ v0).setCell ⟨g, o1, none⟩ v1).setCell ⟨g, o2, none⟩ v2).setCell ⟨g, o3, none⟩ v3).setCell ⟨g, o4, none⟩ v4).setCell ⟨g, o5, none⟩ v5).setCell ⟨g, o6, none⟩ v6).setCell ⟨g, o7, none⟩ v7).drew := by
  refine Turn.andGrow ?_ ((Grow.refl _).drew)
  exact (((((((((Turn.refl (fun i => i = g) w).set ⟨g, o0, none⟩ rfl v0).set ⟨g, o1, none⟩ rfl v1).set ⟨g, o2, none⟩ rfl v2).set ⟨g, o3, none⟩ rfl v3).set ⟨g, o4, none⟩ rfl v4).set ⟨g, o5, none⟩ rfl v5).set ⟨g, o6, none⟩ rfl v6).set ⟨g, o7, none⟩ rfl v7)

set_option maxHeartbeats 2000000 in
theorem pm_keep_r {w : World} {x : MB} {N : Nat} {S T : List UInt8} {A : List Bool} (h : PM w x N S T A) (k : Nat) (hk : k < N) {r cnt : Nat} {D : DataW Unit} {left : Lit → Bool} (hrg : w.ranges Try.prog 3 (plainElem Try.prog 4) x.b r N D left cnt) (hr : ¬ x.F r) :
    Calls Try.prog 34 #[.pointer (some ⟨x.p, 0, none⟩), .int .i64 (k : Nat)] w fun e w' => e = .returned (.tuple #[]) ∧ PM w' x N S (keepN S T (8 * k) 8) (A.set k false) ∧ Turn x.F w w' ∧ ∃ cnt', cnt' ≤ cnt ∧ w'.ranges Try.prog 3 (plainElem Try.prog 4) x.b r N (D.del (keyL k)) (fun z => left z && !z.sameKey (keyL k)) cnt' := by
  obtain ⟨cs, ct, hcs, hct, c0, c1, c2, l0⟩ := h.view
  have H := Lib.hid h
  have HRG := Lib.hid hrg
  have hap := h.apart
  have HNB := Lib.hid (show x.b ≠ x.gt from Ne.symm hap.2.2.2.2.2)
  have HNR := Lib.hid (show r ≠ x.gt from fun q => hr (.inr (.inr (.inl q))))
  have hb := h.bound
  have HB := Lib.hid hb.2.2
  obtain ⟨s0, -⟩ := h.seenAt (j := k * 8) (by omega)
  obtain ⟨s1, -⟩ := h.seenAt (j := k * 8 + 1) (by omega)
  obtain ⟨s2, -⟩ := h.seenAt (j := k * 8 + 2) (by omega)
  obtain ⟨s3, -⟩ := h.seenAt (j := k * 8 + 3) (by omega)
  obtain ⟨s4, -⟩ := h.seenAt (j := k * 8 + 4) (by omega)
  obtain ⟨s5, -⟩ := h.seenAt (j := k * 8 + 5) (by omega)
  obtain ⟨s6, -⟩ := h.seenAt (j := k * 8 + 6) (by omega)
  obtain ⟨s7, -⟩ := h.seenAt (j := k * 8 + 7) (by omega)
  obtain ⟨t0, f0⟩ := h.lastAt (j := k * 8) (by omega)
  obtain ⟨t1, f1⟩ := h.lastAt (j := k * 8 + 1) (by omega)
  obtain ⟨t2, f2⟩ := h.lastAt (j := k * 8 + 2) (by omega)
  obtain ⟨t3, f3⟩ := h.lastAt (j := k * 8 + 3) (by omega)
  obtain ⟨t4, f4⟩ := h.lastAt (j := k * 8 + 4) (by omega)
  obtain ⟨t5, f5⟩ := h.lastAt (j := k * 8 + 5) (by omega)
  obtain ⟨t6, f6⟩ := h.lastAt (j := k * 8 + 6) (by omega)
  obtain ⟨t7, f7⟩ := h.lastAt (j := k * 8 + 7) (by omega)
  clear h hb hrg hr hap
  go_enter Try.func34, Try.ntmps34
  go_upto_region 0 with (fail)
  go_cut [] (fun wx => (PM wx x N S (keepN S T (8 * k) 8) A ∧ Turn x.F w wx) ∧ wx.heap[x.b]? = w.heap[x.b]? ∧ wx.heap[r]? = w.heap[r]?)
  case first =>
    go_region
    go_wp2_with fail
    go_meet
    have e : keepN S T (8 * k) 8 = (((((((T.set (k * 8) (S.getD (k * 8) 0)).set (k * 8 + 1) (S.getD (k * 8 + 1) 0)).set (k * 8 + 2) (S.getD (k * 8 + 2) 0)).set (k * 8 + 3) (S.getD (k * 8 + 3) 0)).set (k * 8 + 4) (S.getD (k * 8 + 4) 0)).set (k * 8 + 5) (S.getD (k * 8 + 5) 0)).set (k * 8 + 6) (S.getD (k * 8 + 6) 0)).set (k * 8 + 7) (S.getD (k * 8 + 7) 0) := by
      rw [Nat.mul_comm 8 k]; rfl
    rw [e]
    have h0 := H.out.lastSet (k * 8) (S.getD (k * 8) 0)
    have h1 := h0.1.lastSet (k * 8 + 1) (S.getD (k * 8 + 1) 0)
    have h2 := h1.1.lastSet (k * 8 + 2) (S.getD (k * 8 + 2) 0)
    have h3 := h2.1.lastSet (k * 8 + 3) (S.getD (k * 8 + 3) 0)
    have h4 := h3.1.lastSet (k * 8 + 4) (S.getD (k * 8 + 4) 0)
    have h5 := h4.1.lastSet (k * 8 + 5) (S.getD (k * 8 + 5) 0)
    have h6 := h5.1.lastSet (k * 8 + 6) (S.getD (k * 8 + 6) 0)
    have h7 := h6.1.lastSet (k * 8 + 7) (S.getD (k * 8 + 7) 0)
    refine ⟨⟨h7.1.keep ((Grow.refl _).drew), (((((((h0.2.and h1.2).and h2.2).and h3.2).and h4.2).and h5.2).and h6.2).and h7.2).andGrow ((Grow.refl _).drew)⟩, ?_, ?_⟩
    · exact (turn8 ..).block _ (H.out.lt _ (.inr (.inr (.inr rfl)))) HNB.out
    · exact (turn8 ..).block _ HRG.out.lt HNR.out
  case rest =>
    obtain ⟨⟨h1, r1⟩, hb1, hb2⟩ := hcut
    have HR2 := Lib.hid (ranges_same HRG.out hb1 hb2)
    clear hb1 hb2 HRG
    clear c0 c1 c2 l0 s0 s1 s2 s3 s4 s5 s6 s7 t0 t1 t2 t3 t4 t5 t6 t7 f0 f1 f2 f3 f4 f5 f6 f7
    obtain ⟨cs', ct', -, -, -, -, d2, l1⟩ := h1.view
    obtain ⟨D', hD1, hD2⟩ := h1.isSet
    obtain rfl := owns_unique hD1 HR2.out.owns
    have HD2 := Lib.hid hD2
    have H1 := Lib.hid h1
    have HL := Lib.hid h1.lenA
    have HK := Lib.hid (show k < A.length by rw [h1.lenA]; exact hk)
    have HWF := Lib.hid (show (Lit.int .i64 (k : Int)).wf = true from WalkArith.wf_i64 (by have := HB.out; omega))
    clear h1 hD1 hD2
    go_wp2_with (at_delete; refine wpList_delete_ranges _ rfl (.tmp 20) (.tmp 21) 51 3 rfl 4 int_keyed' Try.underlying51 _ x.b r N _ _ _ rfl HR2.out _ (keyL k) rfl (keyOf_int_mk Try.underlying3 HWF.out) ?_; intro w2 cnt2 hrg2 hle hturn)
    have hS2 : SetIs w2 x.b (A.set k false) := ⟨_, by rw [List.length_set, HL.out]; exact hrg2.owns, has_del HD2.out HK.out⟩
    have hg2 := hturn.grown
    have h2 := H1.out.setTo hS2 (by rw [List.length_set]) hg2
    go_end0
    exact ⟨rfl, h2.1, r1.and h2.2, _, hle, hrg2⟩

theorem plainElem_bool_inv {e : TypeId} (he : Try.prog.underlying e = some .bool) {v : Value} {z : DataW Unit × List MemPlace} (h : plainElem Try.prog e v = some z) : ∃ a, v = .bool a := by
  unfold plainElem at h
  rw [he] at h
  cases v <;> simp at h
  exact ⟨_, rfl⟩
theorem sameKey_ne {k j : Nat} : (keyL j).sameKey (keyL k) = decide (j = k) := by
  by_cases e : j = k
  · subst e; rw [WideAt.sameKey_self (keyL_is j)]; simp
  · rw [decide_eq_false e]
    cases h : (keyL j).sameKey (keyL k) with
    | false => rfl
    | true => exact absurd (keyL_inj (WideAt.sameKey_eq h)) e
def fenceA (N : Nat) (left : Lit → Bool) : List Bool := (List.range N).map fun k => left (keyL k)
theorem fenceA_get (N : Nat) (left : Lit → Bool) (k : Nat) : (fenceA N left)[k]? = if k < N then some (left (keyL k)) else none := by
  unfold fenceA
  by_cases h : k < N <;> simp [h]
def fenceT (S T : List UInt8) (A : List Bool) (left : Lit → Bool) : List UInt8 := mixL S T fun k => A.getD k false && !left (keyL k)

theorem fenceT_end {S T : List UInt8} {A : List Bool} {left : Lit → Bool} (h : ∀ kl, left kl = false) : fenceT S T A left = mixL S T fun k => A.getD k false := mixL_congr S T fun k _ => by rw [h]; simp
theorem fenceA_end {N : Nat} {left : Lit → Bool} (h : ∀ kl, left kl = false) : fenceA N left = List.replicate N false := by
  apply List.ext_getElem?
  intro k
  rw [fenceA_get, List.getElem?_replicate, h]
theorem fenceT_step {S T : List UInt8} {A : List Bool} {left : Lit → Bool} {k : Nat} (hk : A[k]? = some true) : keepN S (fenceT S T A left) (8 * k) 8 = fenceT S T A fun z => left z && !z.sameKey (keyL k) := by
  unfold fenceT
  rw [mixL_keep]
  refine mixL_congr S T fun j _ => ?_
  simp only [sameKey_ne]
  by_cases e : j = k
  · subst e
    have : A.getD j false = true := by rw [List.getD_eq_getElem?_getD, hk]; rfl
    rw [this]; simp
  · simp [e]
theorem fenceA_step {N : Nat} {left : Lit → Bool} {k : Nat} : (fenceA N left).set k false = fenceA N fun z => left z && !z.sameKey (keyL k) := by
  apply List.ext_getElem?
  intro j
  rw [fenceA_get]
  simp only [sameKey_ne]
  by_cases e : k = j
  · subst e
    rw [List.getElem?_set]
    by_cases hj : k < N <;> simp [hj, fenceA]
  · rw [List.getElem?_set_ne e, fenceA_get, decide_eq_false (Ne.symm e)]
    simp

/-- What holds at each round of Fence. -/
def FenceInv (w wr : World) (x : MB) (N : Nat) (S T : List UInt8) (A : List Bool) (r : Nat) : Prop := ∃ (left : Lit → Bool) (cnt : Nat) (D : DataW Unit),
  wr.ranges Try.prog 3 (plainElem Try.prog 4) x.b r N D left cnt ∧ (∀ kl, left kl = true → ∃ k, kl = keyL k ∧ A[k]? = some true) ∧ PM wr x N S (fenceT S T A left) (fenceA N left) ∧ Turn x.F w wr

/-- What a step that brings an entry leaves. -/
structure NextF (wr w1 : World) (b r N : Nat) (D : DataW Unit) (left : Lit → Bool) (cnt cnt1 k : Nat) (A : List Bool) : Prop where
  at_ : A[k]? = some true
  here : left (keyL k) = true
  rg : w1.ranges Try.prog 3 (plainElem Try.prog 4) b r N D (fun z => left z && !z.sameKey (keyL k)) cnt1
  lt : cnt1 < cnt
  grow : wr.grownBy w1 (some r)
  size : w1.heap.size = wr.heap.size
theorem wpList_nextSet {w : World} {ops : Array Oper} {rest : List Oper} {o : Oper} {a : Act} {Q : Exit → Act → World → Prop} {A : List Bool} (hg : o.guard = none) (it : Operand) (hop : o.op = Op.next it false) (b r N : Nat) (D : DataW Unit) (left : Lit → Bool) (cnt : Nat)
    (hit : a.eval it = .pointer (some ⟨r, 0, none⟩)) (h : w.ranges Try.prog 3 (plainElem Try.prog 4) b r N D left cnt) (hleft : ∀ kl, left kl = true → ∃ k, kl = keyL k ∧ A[k]? = some true)
    (hDone : (∀ kl, left kl = false) → wpList Try.prog ops Q rest (a.put o.dst (.tuple #[.bool false])) w)
    (hMore : ∀ (k : Nat) (v : Value) (w1 : World) (cnt1 : Nat), NextF w w1 b r N D left cnt cnt1 k A → (Instr.entry (.pointer (some ⟨r, 0, none⟩))).run Try.prog w1 = .ok (.tuple #[.int .i64 (k : Int), v]) w1 → wpList Try.prog ops Q rest (a.put o.dst (.tuple #[.bool true, .int .i64 (k : Int), v])) w1) :
    wpList Try.prog ops Q (o :: rest) a w := by
  refine wpList_next_ranges _ hg it hop 3 int_keyed' (plainElem Try.prog 4) (Value.int .i64) Value.bool (fun key kl hkey => by obtain ⟨x, rfl, _⟩ := Maps.keyOf_int_inv Try.underlying3 hkey; exact ⟨x, rfl⟩) (fun v y hv => plainElem_bool_inv Try.underlying4 hv) b r N D left cnt hit h (fun _ hl => hDone hl) ?_
  intro z c kl y w1 cnt1 hkey hlk hv hat hrg1 hlt hg1 hs1 hen
  obtain ⟨z', e1, rfl, hwz⟩ := Maps.keyOf_int_inv Try.underlying3 hkey
  injection e1 with _ e1
  subst e1
  obtain ⟨k, e2, hk⟩ := hleft _ hlk
  have e3 : z = (k : Int) := by unfold keyL at e2; injection e2
  subst e3
  exact hMore k _ w1 cnt1 ⟨hk, hlk, hrg1, hlt, hg1, hs1⟩ hen

theorem pm_fence {w : World} {x : MB} {N : Nat} {S T : List UInt8} {A : List Bool} (h : PM w x N S T A) :
    Calls Try.prog 15 #[.pointer (some ⟨x.p, 0, none⟩)] w fun e w' => e = .returned (.tuple #[]) ∧ PM w' x N S (mixL S T fun k => A.getD k false) (List.replicate N false) ∧ Turn x.F w w' := by
  obtain ⟨cs, ct, hcs, hct, c0, c1, c2, l0⟩ := h.view
  obtain ⟨D, hD1, hD2⟩ := h.isSet
  have hl := h.lenA
  rw [hl] at hD1
  have H := Lib.hid h
  have HL := Lib.hid hl
  have HD := Lib.hid hD2
  have HLT := Lib.hid h.lt
  clear h hl hD2
  go_enter Try.func15, Try.ntmps15
  go_wp2_with (at_range; refine wpList_range_own _ rfl (.tmp 6) 51 rfl 3 4 int_keyed' Try.underlying51 _ x.b N D rfl hD1 ?_; intro w0 hrg0 hg0 hs0)
  go_frame
  clear c0 c1 c2 l0 hD1
  go_loopw [2] (fun _ wr => FenceInv w wr x N S T A w.heap.size) (fun _ wr => wr.rangeLeft x.b w.heap.size)
  case atStart =>
    refine ⟨_, _, _, hrg0, fun kl hk => (HD.out kl).1 hk, ?_, Turn.grown hg0 (fun j hj => by cases hj)⟩
    have hT : fenceT S T A (Maps.has D) = T := mixL_none S T fun k => by
      cases ha : A.getD k false with
      | false => rfl
      | true =>
        have : Maps.has D (keyL k) = true := (HD.out _).2 ⟨k, rfl, by rw [List.getD_eq_getElem?_getD] at ha; cases hk : A[k]? with | none => rw [hk] at ha; cases ha | some v => rw [hk] at ha; rw [show v = true from ha]⟩
        rw [this]; rfl
    have hA : fenceA N (Maps.has D) = A := by
      apply List.ext_getElem?
      intro k
      rw [fenceA_get]
      by_cases hk : k < N
      · rw [if_pos hk]
        have hk' : k < A.length := by rw [HL.out]; exact hk
        rw [List.getElem?_eq_getElem hk']
        congr 1
        cases ha : A[k] with
        | true => exact (HD.out _).2 ⟨k, rfl, by rw [List.getElem?_eq_getElem hk', ha]⟩
        | false =>
          cases hh : Maps.has D (keyL k) with
          | false => rfl
          | true =>
            obtain ⟨j, hj, hj2⟩ := (HD.out _).1 hh
            obtain rfl := keyL_inj hj
            rw [List.getElem?_eq_getElem hk', ha] at hj2
            cases hj2
      · rw [if_neg hk, List.getElem?_eq_none (by rw [HL.out]; omega)]
    rw [hT, hA]
    exact H.out.turn (F := fun _ => False) (Turn.grown hg0 (fun j hj => by cases hj)) (fun _ q => q.elim)
  case round =>
    obtain ⟨left, cnt, D1, hrg, hleft, hP, ht⟩ := hrel
    have HLF := Lib.hid hleft
    have HRG := Lib.hid hrg
    have HP := Lib.hid hP
    clear hleft hP
    go_wp2_with (at_next; refine wpList_nextSet rfl (.tmp 7) rfl x.b w.heap.size N D1 left cnt rfl HRG.out HLF.out (fun hl0 => ?_) (fun k v w1 cnt1 hN hen => ?_))
    · have hP := HP.out
      rw [fenceT_end hl0, fenceA_end hl0] at hP
      go_end0
      exact ⟨rfl, hP, ht⟩
    · have hk : k < N := by have := (List.getElem?_eq_some_iff.1 hN.at_).1; rw [HL.out] at this; exact this
      have hnr : ¬ x.F w.heap.size := fun q => by have := HLT.out _ q; omega
      have tr : Turn (fun i => i = w.heap.size) wr w1 := Turn.grown hN.grow (fun j hj => by injection hj with hj; exact hj.symm)
      refine (pm_keep_r (HP.out.turn tr (fun i q => by subst q; exact hnr)) k hk hN.rg hnr).mono ?_
      rintro e w2 ⟨rfl, hP2, t2, cnt2, hle, hrg2⟩
      rw [Maps.strike_twice] at hrg2
      rw [fenceT_step hN.at_, fenceA_step] at hP2
      have X : FenceInv w w2 x N S T A w.heap.size := ⟨_, cnt2, _, hrg2, fun kl hk => HLF.out kl (by simp at hk; exact hk.1), hP2, (ht.trans tr (fun i q => by subst q; exact .inr (Nat.le_refl _))).and t2⟩
      have M : w2.rangeLeft x.b w.heap.size < wr.rangeLeft x.b w.heap.size := by rw [hrg2.left_eq, HRG.out.left_eq]; exact Nat.lt_of_le_of_lt hle hN.lt
      go_wp2_with fail
      go_roundw
      case rel => first | exact X | ((repeat apply Exists.intro); exact X) | ((repeat apply Exists.intro); refine ⟨X, ?_⟩; rfl)
      case measure => exact M
end Go.Proofs.Ytnhgfkahmflpgaa
