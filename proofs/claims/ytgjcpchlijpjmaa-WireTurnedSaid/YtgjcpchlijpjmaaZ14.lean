/- The document's Read. The laws' few. No statement of the seat is proved here. -/
import Derived.Test.YtgjcpchlijpjmaaZ13
namespace Go.Proofs.Ytgjcpchlijpjmaa
open Go.RowKit Go.Great

theorem mread_ret {w : World} {x : Nat} {vs : List Value} {tmps : Array Value} {v : Value} (h2 : tmps.getD 2 undef = .pointer (some ⟨x, 0, none⟩)) (h3 : tmps.getD 3 undef = v) (hg : Blk w x vs) (hsz : vs.length = 43) :
    (results Try.f15 tmps).run Try.prog w = .ok (.tuple #[.agg vs.toArray, v]) w := by
  rw [results_cell_tmp Try.results15, h2, h3]
  simp only [asAddr, Sem.run_pure, Result.andThen_ok]
  rw [run_loadVar_mid (P := Try.prog) w x 0 35 vs _ hg.range Try.underlying35 rfl (by rw [hsz]; exact pk_size)]
  rfl
theorem body_is {q : PK} {o : OBs} (h : (rBody false q o).2.isSome = true) : o.isSome = true := by
  cases o with
  | some y => rfl
  | none =>
    exfalso
    unfold rBody at h
    repeat' split at h
    all_goals cases h
theorem seal_iff {bs : List UInt8} {m : Nat} (h : bs.length = m + 4) : (sumB (bs.take m) = bs) ↔ getN bs (m : Int) 4 = (crcN (bs.take m) : Nat) := by
  constructor
  · intro e
    have h1 := sumB_get' (bs.take m)
    rw [e, List.length_take, Nat.min_eq_left (by omega)] at h1
    exact h1
  · intro e
    have h1 := sum_right (b := bs) (m := m) (by omega) e
    rw [← h1, List.take_of_length_le (by omega)]
theorem read_ok {bs : List UInt8} {q qh : PK} {b : Nat} {no may : Bool} {o : OBs} (h1 : mrO bs b no = (rBody false qh o).2) (ho : o = rHeadR (some bs)) (hh : o.isSome = true → qh = rHead (some bs)) (h2 : (rBody false qh o).2.isSome = true → q = (rBody false qh o).1) (hb : b ≤ bs.length) (hm : may = decide ((innerP q).isSome = true ∧ normP q = q)) :
    ((no || decide (b ≠ bs.length) || !may) = !okP bs) ∧ (okP bs = true → q = (parseP true bs).1) := by
  have key : (rBody false qh o).2.isSome = true → parseP false bs = rBody false qh o := by
    intro h
    have := hh (body_is h)
    unfold parseP
    rw [← ho, ← this]
  cases hk : okP bs with
  | true =>
    have hk' := hk
    unfold okP at hk'
    rw [Bool.and_eq_true, decide_eq_true_iff] at hk'
    have hl := parse_lim hk'.1
    obtain ⟨hi1, hi2⟩ := parse_inv hk
    have hs : (parseP false bs).2 = some [] := by rw [hl]; exact hk'.1
    have hos : o.isSome = true := by
      rw [ho]
      exact body_is (q := rHead (some bs)) (o := rHeadR (some bs)) (by show (parseP false bs).2.isSome = true; rw [hs]; rfl)
    have hz : rBody false qh o = parseP false bs := by
      rw [hh hos, ho]; rfl
    have hqe : q = (parseP true bs).1 := by
      rw [h2 (by rw [hz, hs]; rfl), hz, hl]
    rw [hz, hs] at h1
    have hno : no = false := mrO_some (by rw [h1]; rfl)
    subst hno
    have hd : bs.drop b = [] := by
      have : some (bs.drop b) = some ([] : List UInt8) := h1
      injection this
    have hbl : b = bs.length := by
      have := congrArg List.length hd
      rw [List.length_drop] at this
      simp at this
      omega
    have hmay : may = true := by
      rw [hm, decide_eq_true_iff, hqe]
      exact ⟨by rw [hi1]; rfl, hi2⟩
    exact ⟨by rw [hmay, hbl]; simp, fun _ => hqe⟩
  | false =>
    refine ⟨?_, fun h => by cases h⟩
    cases no with
    | true => rfl
    | false =>
      by_cases hbl : b = bs.length
      · cases may with
        | false => simp
        | true =>
          exfalso
          have hm' := hm.symm
          rw [decide_eq_true_iff] at hm'
          have h1' : some (bs.drop b) = (rBody false qh o).2 := h1
          rw [hbl, List.drop_length] at h1'
          have hsome : (rBody false qh o).2.isSome = true := by rw [← h1']; rfl
          have hz := key hsome
          have hq := h2 hsome
          obtain ⟨l, hl⟩ := Option.isSome_iff_exists.1 hm'.1
          have := (parse_lim2 (b := bs) (l := l) (by rw [hz]; exact h1'.symm) (by rw [hz, ← hq]; exact hl)).2
          rw [hk] at this
          cases this
      · simp [hbl]

set_option maxHeartbeats 16000000 in
set_option maxRecDepth 8000 in
theorem m_read {w : World} {A : Option Addr} {n c : Nat} {bs : List UInt8} (hs : Sl w A n bs) (hc : n ≤ c) (hn : n ≤ 1000) (hA : 0 < n → ∀ p, A = some p → p.block < w.heap.size) :
    Calls Try.prog 15 #[.slice A n c] w fun e w' => ∃ nv, e = .returned (.tuple #[.agg ((rdV bs).cells nv).toArray, .int .i64 (rdE bs)]) ∧ Grow w w' ∧ OS w' w.heap.size nv (rdV bs).names := by
  have HS := Lib.hid hs
  have HA := Lib.hid hA
  have hbl := hs.1
  clear hs hA
  go_enter Try.func15, Try.ntmps15
  have hRow := Row.new w 35 zP #[.int .i64 0, .int .i64 0, .int .i64 0, .int .i64 0, .int .i64 0, .int .i64 0, .int .i64 0, .string ⟨#[]⟩, .int .i64 0, .int .i64 0, .int .i64 0, .string ⟨#[]⟩, .string ⟨#[]⟩, .int .i64 0, .int .i64 0, .int .i64 0, .int .i64 0, .string ⟨#[]⟩, .int .i64 0, .int .i64 0, .int .i64 0, .int .i64 0, .string ⟨#[]⟩, .slice none 0 0, .int .i64 0, .int .i64 0, .int .i64 0, .int .i64 0, .int .i64 0, .int .i64 0, .int .i64 0, .int .i64 0, .int .i64 0, .int .i64 0, .int .i64 0, .int .i64 0, .int .i64 0, .int .i64 0, .int .i64 0, .int .i64 0, .int .i64 0, .int .i64 0, .int .i64 0] rfl
  have hG := (Grow.refl w).alloc (.cells #[.int .i64 0, .int .i64 0, .int .i64 0, .int .i64 0, .int .i64 0, .int .i64 0, .int .i64 0, .string ⟨#[]⟩, .int .i64 0, .int .i64 0, .int .i64 0, .string ⟨#[]⟩, .string ⟨#[]⟩, .int .i64 0, .int .i64 0, .int .i64 0, .int .i64 0, .string ⟨#[]⟩, .int .i64 0, .int .i64 0, .int .i64 0, .int .i64 0, .string ⟨#[]⟩, .slice none 0 0, .int .i64 0, .int .i64 0, .int .i64 0, .int .i64 0, .int .i64 0, .int .i64 0, .int .i64 0, .int .i64 0, .int .i64 0, .int .i64 0, .int .i64 0, .int .i64 0, .int .i64 0, .int .i64 0, .int .i64 0, .int .i64 0, .int .i64 0, .int .i64 0, .int .i64 0] 35)
  go_upto_region 1 with (fail)
  obtain ⟨w1, hw1⟩ : ∃ z, z = w.alloc (.cells #[.int .i64 0, .int .i64 0, .int .i64 0, .int .i64 0, .int .i64 0, .int .i64 0, .int .i64 0, .string ⟨#[]⟩, .int .i64 0, .int .i64 0, .int .i64 0, .string ⟨#[]⟩, .string ⟨#[]⟩, .int .i64 0, .int .i64 0, .int .i64 0, .int .i64 0, .string ⟨#[]⟩, .int .i64 0, .int .i64 0, .int .i64 0, .int .i64 0, .string ⟨#[]⟩, .slice none 0 0, .int .i64 0, .int .i64 0, .int .i64 0, .int .i64 0, .int .i64 0, .int .i64 0, .int .i64 0, .int .i64 0, .int .i64 0, .int .i64 0, .int .i64 0, .int .i64 0, .int .i64 0, .int .i64 0, .int .i64 0, .int .i64 0, .int .i64 0, .int .i64 0, .int .i64 0] 35) := ⟨_, rfl⟩
  obtain ⟨x, hx⟩ : ∃ z, z = w.heap.size := ⟨_, rfl⟩
  rw [← hw1] at hRow hG ⊢
  rw [← hx] at hRow ⊢
  have HROW := Lib.hid hRow
  have HG := Lib.hid hG
  have HX := Lib.hid hx
  clear hw1 hRow hG hx
  by_cases h4 : n < 4
  · have z1 : decide (n < 4) = true := decide_eq_true h4
    have z2 : decide ((n : Int) < 4) = true := decide_eq_true (by omega)
    go_upto_region 2 with (fail)
    refine wp_region_list ?_
    refine wpList_buildTo rfl 35 #[] rfl (some 12) rfl zP.toArray (by kernel_rfl) ?_
    refine wpList_storeRow rfl 35 (.tmp 2) (.tmp 12) rfl rfl x rfl zP zP rfl HROW.out rfl pk_size zP_one ?_
    intro w2 r2 t2 s2
    have HR := Lib.hid r2
    have HT := Lib.hid t2
    clear r2 t2 s2
    go_wp2_with fail
    obtain ⟨s1, s2⟩ := rdE_short (bs := bs) (by omega)
    refine bodyPost_ret (mread_ret rfl rfl HR.out.1 rfl) rfl ⟨.slice none 0 0, by rw [s1, s2]; rfl, ?_, ?_⟩
    · exact HG.out.low (HT.out.low (fun i e => by have := HX.out; have e' : i = x := e; omega) HG.out.size)
    · rw [s2]; exact World.ownsRow_nil _ _ _ _
  · obtain ⟨m, rfl⟩ : ∃ m, n = m + 4 := ⟨n - 4, by omega⟩
    have e5 : wrap64 (((m + 4 : Nat) : Int) - 4) = (m : Int) := by rw [show ((m + 4 : Nat) : Int) - 4 = (m : Int) by omega]; exact IntWalk.wrap64_in _ (by omega)
    have z1 : decide (m + 4 < 4) = false := decide_eq_false (by omega)
    have z2 : decide (((m + 4 : Nat) : Int) < 4) = false := decide_eq_false (by omega)
    have z3 : decide ((m : Int) < 0) = false := decide_eq_false (by omega)
    have HS1 := Lib.hid (HS.out.keep HG.out)
    have hm4 : m ≤ m + 4 := by omega
    go_wp2_with fail
    refine (m_sealed (HS1.out.take hm4) (by omega)).mono ?_
    rintro e w3 ⟨A3, c3, rfl, ho3, g3⟩
    have HS3 := Lib.hid (HS1.out.keep g3)
    have HO3 := Lib.hid ho3
    have HROW3 := Lib.hid (HROW.out.keep g3)
    have HG3 := Lib.hid (HG.out.trans g3)
    clear ho3 g3
    go_wp2_with fail
    refine (same_s HO3.out.sl HS3.out).mono ?_
    rintro e w4 ⟨sb, rfl, hsb, jj, hw4⟩
    have g4 : Grow w3 w4 := by rw [hw4]; exact (Grow.refl _).drewN _
    have HS4 := Lib.hid (HS3.out.keep g4)
    have HROW4 := Lib.hid (HROW3.out.keep g4)
    have HG4 := Lib.hid (HG3.out.trans g4)
    have h4' : ¬ bs.length < 4 := by omega
    have el : bs.length - 4 = m := by omega
    have HEL := Lib.hid el
    have HBL := Lib.hid hbl
    have HSB := Lib.hid (show sb = decide (getN bs (m : Int) 4 = (crcN (bs.take m) : Nat)) by
      rw [hsb.out, Bool.eq_iff_iff, decide_eq_true_iff, decide_eq_true_iff]; exact seal_iff hbl)
    have hxl := HROW4.out.1.1
    clear g4 hw4 hsb HO3 HS3 HROW3 HG3 HS1 el hbl
    cases sb with
    | false =>
      have HSS := Lib.hid (rdE_sum h4' (by rw [HEL.out]; exact of_decide_eq_false HSB.out.symm))
      clear HSB
      go_upto_region 5 with (fail)
      refine wp_region_list ?_
      refine wpList_buildTo rfl 35 #[] rfl (some 23) rfl zP.toArray (by kernel_rfl) ?_
      refine wpList_storeRow rfl 35 (.tmp 2) (.tmp 23) rfl rfl x rfl zP zP rfl HROW4.out rfl pk_size zP_one ?_
      intro w8 r8 t8 z8
      have HR8 := Lib.hid r8
      have HT8 := Lib.hid t8
      clear r8 t8 z8
      go_wp2_with fail
      obtain ⟨s1, s2⟩ := HSS.out
      refine bodyPost_ret (mread_ret rfl rfl HR8.out.1 rfl) rfl ⟨.slice none 0 0, by rw [s1, s2]; rfl, ?_, ?_⟩
      · exact HG4.out.low (HT8.out.low (fun i e => by have := HX.out; have e' : i = x := e; omega) HG4.out.size)
      · rw [s2]; exact World.ownsRow_nil _ _ _ _
    | true =>
      have HSM := Lib.hid (of_decide_eq_true HSB.out.symm)
      clear HSB
      go_upto_region 7 with (fail)
      obtain ⟨bt, hbt⟩ : ∃ z, z = bs.take m := ⟨_, rfl⟩
      have HBT := Lib.hid hbt
      have hrow := Row.new w4 69 [.slice A m c, .int .i64 0, .bool false] _ rfl
      have ga := (Grow.refl w4).alloc (.cells #[.slice A m c, .int .i64 0, .bool false] 69)
      obtain ⟨w5, hw5⟩ : ∃ z, z = w4.alloc (.cells #[.slice A m c, .int .i64 0, .bool false] 69) := ⟨_, rfl⟩
      obtain ⟨g, hg⟩ : ∃ z, z = w4.heap.size := ⟨_, rfl⟩
      rw [← hw5] at hrow ga ⊢
      rw [← hg] at hrow ⊢
      have hBg : w.heap.size ≤ g := by rw [hg]; exact HG4.out.size
      have hxg : ¬ x = g := by omega
      have HD5 := Lib.hid (show MR w5 g w.heap.size A m c bt 0 false from ⟨hrow, hbt ▸ (HS4.out.take hm4).keep ga, by omega, Nat.zero_le _, by omega, hBg, fun h0 p hp => HA.out (by omega) p hp⟩)
      have HROW5 := Lib.hid (HROW4.out.keep ga)
      have HG5 := Lib.hid (HG4.out.trans ga)
      have hg5 : g < w5.heap.size := hrow.1.1
      have hln : bt.length = m := HD5.out.sl.1
      clear hw5 hrow ga hg HS4 HROW4 HG4 hbt
      go_upto_region 8 with (fail)
      have hy0 := Row.new w5 35 zP #[.int .i64 0, .int .i64 0, .int .i64 0, .int .i64 0, .int .i64 0, .int .i64 0, .int .i64 0, .string ⟨#[]⟩, .int .i64 0, .int .i64 0, .int .i64 0, .string ⟨#[]⟩, .string ⟨#[]⟩, .int .i64 0, .int .i64 0, .int .i64 0, .int .i64 0, .string ⟨#[]⟩, .int .i64 0, .int .i64 0, .int .i64 0, .int .i64 0, .string ⟨#[]⟩, .slice none 0 0, .int .i64 0, .int .i64 0, .int .i64 0, .int .i64 0, .int .i64 0, .int .i64 0, .int .i64 0, .int .i64 0, .int .i64 0, .int .i64 0, .int .i64 0, .int .i64 0, .int .i64 0, .int .i64 0, .int .i64 0, .int .i64 0, .int .i64 0, .int .i64 0, .int .i64 0] rfl
      have ga := (Grow.refl w5).alloc (.cells #[.int .i64 0, .int .i64 0, .int .i64 0, .int .i64 0, .int .i64 0, .int .i64 0, .int .i64 0, .string ⟨#[]⟩, .int .i64 0, .int .i64 0, .int .i64 0, .string ⟨#[]⟩, .string ⟨#[]⟩, .int .i64 0, .int .i64 0, .int .i64 0, .int .i64 0, .string ⟨#[]⟩, .int .i64 0, .int .i64 0, .int .i64 0, .int .i64 0, .string ⟨#[]⟩, .slice none 0 0, .int .i64 0, .int .i64 0, .int .i64 0, .int .i64 0, .int .i64 0, .int .i64 0, .int .i64 0, .int .i64 0, .int .i64 0, .int .i64 0, .int .i64 0, .int .i64 0, .int .i64 0, .int .i64 0, .int .i64 0, .int .i64 0, .int .i64 0, .int .i64 0, .int .i64 0] 35)
      obtain ⟨w6, hw6⟩ : ∃ z, z = w5.alloc (.cells #[.int .i64 0, .int .i64 0, .int .i64 0, .int .i64 0, .int .i64 0, .int .i64 0, .int .i64 0, .string ⟨#[]⟩, .int .i64 0, .int .i64 0, .int .i64 0, .string ⟨#[]⟩, .string ⟨#[]⟩, .int .i64 0, .int .i64 0, .int .i64 0, .int .i64 0, .string ⟨#[]⟩, .int .i64 0, .int .i64 0, .int .i64 0, .int .i64 0, .string ⟨#[]⟩, .slice none 0 0, .int .i64 0, .int .i64 0, .int .i64 0, .int .i64 0, .int .i64 0, .int .i64 0, .int .i64 0, .int .i64 0, .int .i64 0, .int .i64 0, .int .i64 0, .int .i64 0, .int .i64 0, .int .i64 0, .int .i64 0, .int .i64 0, .int .i64 0, .int .i64 0, .int .i64 0] 35) := ⟨_, rfl⟩
      obtain ⟨y, hy⟩ : ∃ z, z = w5.heap.size := ⟨_, rfl⟩
      rw [← hw6] at hy0 ga ⊢
      rw [← hy] at hy0 ⊢
      have hyg : ¬ y = g := by omega
      have hBy : w.heap.size ≤ y := by omega
      have hxy : ¬ x = y := by have := HROW5.out.1.1; omega
      have HX0 := Lib.hid (show Row w6 y (PK.cells {} (.slice none 0 0)) from hy0)
      have HD0 := Lib.hid (HD5.out.keep ga)
      have HT0 := Lib.hid (Turn.refl (fun k => k = g ∨ k = y) w6)
      have HROW6 := Lib.hid (HROW5.out.keep ga)
      have HG6 := Lib.hid (HG5.out.trans ga)
      have hg0 : g < w6.heap.size := Nat.lt_of_lt_of_le hg5 ga.size
      obtain ⟨s0, hs0⟩ : ∃ s, s = mrO bt 0 false := ⟨_, rfl⟩
      have HM0 := Lib.hid hs0
      have HS0 := Lib.hid (show s0 = some bt from hs0)
      clear hw6 hy0 ga hy hs0 HD5 HROW5 HG5 hg5
      go_wp2_with fail
      refine (m_num HD0.out 1 (by decide) 1 rfl).mono ?_
      rintro e v1 ⟨e1, b1, n1, rfl, h2, t2, hr, ho, hv⟩
      obtain ⟨s1, hs⟩ : ∃ z, z = mrO bt b1 n1 := ⟨_, rfl⟩
      have HS1 := Lib.hid (show s1 = rNr s0 1 by rw [hs, ho, HM0.out])
      have HE1 := Lib.hid (show s1.isSome = true → e1 = rN s0 1 from fun hh => by rw [hv (mrO_some (hs ▸ hh)), HM0.out])
      have HK1 := Lib.hid (show i64B e1 from ⟨by omega, hr.2.1⟩)
      have HM1 := Lib.hid hs
      have hxr := HX0.out.turnW t2 hyg
      have c0 := hxr.1.2 0 _ rfl
      have f0 := hxr.2 0 (by simp [PK.cells])
      have k0 := hxr.1.1
      have P := h2.put hxr hyg hBy 0 (.int .i64 e1) (by simp [PK.cells])
      have HD1 := Lib.hid P.1
      have HX1 := Lib.hid (show Row (v1.setCell ⟨y, 0, none⟩ (.int .i64 e1)) y (({ kind := e1 } : PK).cells (.slice none 0 0)) from P.2.1)
      have HT1 := Lib.hid ((HT0.out.and (t2.mono fun _ e => .inl e)).and (P.2.2.mono fun _ e => .inr e))
      have hg1 : g < v1.heap.size := Nat.lt_of_lt_of_le hg0 t2.size
      clear P hxr h2 t2 hr ho hv hs HX0 HD0 HT0
      go_wp2_with fail
      refine (m_num HD1.out 1 (by decide) 1 rfl).mono ?_
      rintro e v2 ⟨e2, b2, n2, rfl, h2, t2, hr, ho, hv⟩
      obtain ⟨s2, hs⟩ : ∃ z, z = mrO bt b2 n2 := ⟨_, rfl⟩
      have HS2 := Lib.hid (show s2 = rNr s1 1 by rw [hs, ho, HM1.out])
      have HE2 := Lib.hid (show s2.isSome = true → e2 = rN s1 1 from fun hh => by rw [hv (mrO_some (hs ▸ hh)), HM1.out])
      have HK2 := Lib.hid (show i64B e2 from ⟨by omega, hr.2.1⟩)
      have HM2 := Lib.hid hs
      have hxr := HX1.out.turnW t2 hyg
      have c1 := hxr.1.2 1 _ rfl
      have f1 := hxr.2 1 (by simp [PK.cells])
      have k1 := hxr.1.1
      have P := h2.put hxr hyg hBy 1 (.int .i64 e2) (by simp [PK.cells])
      have HD2 := Lib.hid P.1
      have HX2 := Lib.hid (show Row (v2.setCell ⟨y, 1, none⟩ (.int .i64 e2)) y (({ kind := e1, client := e2 } : PK).cells (.slice none 0 0)) from P.2.1)
      have HT2 := Lib.hid ((HT1.out.and (t2.mono fun _ e => .inl e)).and (P.2.2.mono fun _ e => .inr e))
      have hg2 : g < v2.heap.size := Nat.lt_of_lt_of_le (show g < (v1.setCell ⟨y, 0, none⟩ (.int .i64 e1)).heap.size by simpa using hg1) t2.size
      clear P hxr h2 t2 hr ho hv hs HX1 HD1 HT1
      go_wp2_with fail
      refine (m_num HD2.out 4 (by decide) 4 rfl).mono ?_
      rintro e v3 ⟨e3, b3, n3, rfl, h2, t2, hr, ho, hv⟩
      obtain ⟨s3, hs⟩ : ∃ z, z = mrO bt b3 n3 := ⟨_, rfl⟩
      have HS3 := Lib.hid (show s3 = rNr s2 4 by rw [hs, ho, HM2.out])
      have HE3 := Lib.hid (show s3.isSome = true → e3 = rN s2 4 from fun hh => by rw [hv (mrO_some (hs ▸ hh)), HM2.out])
      have HK3 := Lib.hid (show i64B e3 from ⟨by omega, hr.2.1⟩)
      have HM3 := Lib.hid hs
      have hxr := HX2.out.turnW t2 hyg
      have c2 := hxr.1.2 2 _ rfl
      have f2 := hxr.2 2 (by simp [PK.cells])
      have k2 := hxr.1.1
      have P := h2.put hxr hyg hBy 2 (.int .i64 e3) (by simp [PK.cells])
      have HD3 := Lib.hid P.1
      have HX3 := Lib.hid (show Row (v3.setCell ⟨y, 2, none⟩ (.int .i64 e3)) y (({ kind := e1, client := e2, epoch := e3 } : PK).cells (.slice none 0 0)) from P.2.1)
      have HT3 := Lib.hid ((HT2.out.and (t2.mono fun _ e => .inl e)).and (P.2.2.mono fun _ e => .inr e))
      have hg3 : g < v3.heap.size := Nat.lt_of_lt_of_le (show g < (v2.setCell ⟨y, 1, none⟩ (.int .i64 e2)).heap.size by simpa using hg2) t2.size
      clear P hxr h2 t2 hr ho hv hs HX2 HD2 HT2
      go_wp2_with fail
      refine (m_num HD3.out 8 (by decide) 8 rfl).mono ?_
      rintro e v4 ⟨e4, b4, n4, rfl, h2, t2, hr, ho, hv⟩
      obtain ⟨s4, hs⟩ : ∃ z, z = mrO bt b4 n4 := ⟨_, rfl⟩
      have HS4 := Lib.hid (show s4 = rNr s3 8 by rw [hs, ho, HM3.out])
      have HE4 := Lib.hid (show s4.isSome = true → e4 = rN s3 8 from fun hh => by rw [hv (mrO_some (hs ▸ hh)), HM3.out])
      have HK4 := Lib.hid (show i64B e4 from ⟨by omega, hr.2.1⟩)
      have HM4 := Lib.hid hs
      have hxr := HX3.out.turnW t2 hyg
      have c3 := hxr.1.2 3 _ rfl
      have f3 := hxr.2 3 (by simp [PK.cells])
      have k3 := hxr.1.1
      have P := h2.put hxr hyg hBy 3 (.int .i64 e4) (by simp [PK.cells])
      have HD4 := Lib.hid P.1
      have HX4 := Lib.hid (show Row (v4.setCell ⟨y, 3, none⟩ (.int .i64 e4)) y (({ kind := e1, client := e2, epoch := e3, seq := e4 } : PK).cells (.slice none 0 0)) from P.2.1)
      have HT4 := Lib.hid ((HT3.out.and (t2.mono fun _ e => .inl e)).and (P.2.2.mono fun _ e => .inr e))
      have hg4 : g < v4.heap.size := Nat.lt_of_lt_of_le (show g < (v3.setCell ⟨y, 2, none⟩ (.int .i64 e3)).heap.size by simpa using hg3) t2.size
      clear P hxr h2 t2 hr ho hv hs HX3 HD3 HT3
      go_upto_region 12 with (fail)
      obtain ⟨w7, hw7⟩ : ∃ z, z = v4.setCell ⟨y, 3, none⟩ (.int .i64 e4) := ⟨_, rfl⟩
      rw [← hw7] at HD4 HX4 HT4 ⊢
      have hg7 : g < w7.heap.size := by rw [hw7]; simpa using hg4
      obtain ⟨qh, hqh⟩ : ∃ z : PK, z = { kind := e1, client := e2, epoch := e3, seq := e4 } := ⟨_, rfl⟩
      rw [← hqh] at HX4
      have HQH := Lib.hid hqh
      have HOKH := Lib.hid (show qh.ok by
        have z0 : i64B 0 := ⟨by decide, by decide⟩
        have zs : (⟨#[]⟩ : ByteArray).size ≤ 1000 := by decide
        rw [hqh]
        exact ⟨HK1.out, HK2.out, HK3.out, HK4.out, z0, z0, z0, zs, z0, z0, z0, zs, zs, z0, z0, z0, z0, z0, z0, z0, z0, ⟨Nat.zero_le _, fun s hs => absurd hs List.not_mem_nil⟩, z0, z0, z0, z0, z0, z0, z0, z0, z0, z0, z0, z0, z0, z0, z0, z0, z0, z0, z0⟩)
      have HQN := Lib.hid (show qh.names = [] by rw [hqh])
      have HHD := Lib.hid (show s4 = rHeadR (some bt) ∧ (s4.isSome = true → qh = rHead (some bt)) by
        have h4 : s4 = rHeadR (some bt) := by rw [HS4.out, HS3.out, HS2.out, HS1.out, HS0.out]; rfl
        refine ⟨h4, fun i4 => ?_⟩
        have i3 : s3.isSome = true := rNr_is (by rw [← HS4.out]; exact i4)
        have i2 : s2.isSome = true := rNr_is (by rw [← HS3.out]; exact i3)
        have i1 : s1.isSome = true := rNr_is (by rw [← HS2.out]; exact i2)
        rw [HQH.out, HE1.out i1, HE2.out i2, HE3.out i3, HE4.out i4, HS3.out, HS2.out, HS1.out, HS0.out]; rfl)
      have c0 : w7.cell? ⟨y, 0, none⟩ = some (.int .i64 e1) := by have := HX4.out.1.2 0 _ rfl; rw [HQH.out] at this; exact this
      have hqk : e1 = qh.kind := by rw [hqh]
      have HQK := Lib.hid hqk
      clear hw7 hqh hqk hg4 c1 c2 c3 f1 f2 f3 k1 k2 k3 f0 k0
      go_upto_block 0 with (fail)
      go_cut [6] (fun v wx => v = .pointer (some ⟨y, 0, none⟩) ∧ MBody w7 wx g y w.heap.size A m c bt (rBody false qh s4))
      case first =>
        have HT4' := Lib.hid (Turn.refl (fun k => k = g ∨ k = y) w7)
        clear HT4
        by_cases k1 : e1 = 1
        · have HKK := Lib.hid (show qh.kind = 1 by rw [← HQK.out]; exact k1)
          have HRB := Lib.hid (show rBody false qh s4 = rAsk false qh s4 by unfold rBody; rw [if_pos HKK.out])
          subst k1
          have HX4 := HX4
          have HT4 := HT4'
          go_wp2_with fail
          refine (m_num HD4.out 1 (by decide) 1 rfl).mono ?_
          rintro e v5 ⟨e5, b5, n5, rfl, h2, t2, hr, ho, hv⟩
          obtain ⟨s5, hs⟩ : ∃ z, z = mrO bt b5 n5 := ⟨_, rfl⟩
          have HS5 := Lib.hid (show s5 = rNr s4 1 by rw [hs, ho, HM4.out])
          have HE5 := Lib.hid (show s5.isSome = true → e5 = rN s4 1 from fun hh => by rw [hv (mrO_some (hs ▸ hh)), HM4.out])
          have HK5 := Lib.hid (show i64B e5 from ⟨by omega, hr.2.1⟩)
          have HM5 := Lib.hid hs
          have hxr := HX4.out.turnW t2 hyg
          have c4 := hxr.1.2 4 _ rfl
          have f4 := hxr.2 4 (by simp [PK.cells])
          have k4 := hxr.1.1
          have P := h2.put hxr hyg hBy 4 (.int .i64 e5) (by simp [PK.cells])
          have HD5 := Lib.hid P.1
          have HX5 := Lib.hid (show Row (v5.setCell ⟨y, 4, none⟩ (.int .i64 e5)) y (({ qh with op := e5 } : PK).cells (.slice none 0 0)) from P.2.1)
          have HT5 := Lib.hid ((HT4.out.and (t2.mono fun _ e => .inl e)).and (P.2.2.mono fun _ e => .inr e))
          have hg5 : g < v5.heap.size := Nat.lt_of_lt_of_le hg7 t2.size
          clear P hxr h2 t2 hr ho hv hs HX4 HD4 HT4
          go_wp2_with fail
          refine (m_num HD5.out 4 (by decide) 4 rfl).mono ?_
          rintro e v6 ⟨e6, b6, n6, rfl, h2, t2, hr, ho, hv⟩
          obtain ⟨s6, hs⟩ : ∃ z, z = mrO bt b6 n6 := ⟨_, rfl⟩
          have HS6 := Lib.hid (show s6 = rNr s5 4 by rw [hs, ho, HM5.out])
          have HE6 := Lib.hid (show s6.isSome = true → e6 = rN s5 4 from fun hh => by rw [hv (mrO_some (hs ▸ hh)), HM5.out])
          have HK6 := Lib.hid (show i64B e6 from ⟨by omega, hr.2.1⟩)
          have HM6 := Lib.hid hs
          have hxr := HX5.out.turnW t2 hyg
          have c5 := hxr.1.2 5 _ rfl
          have f5 := hxr.2 5 (by simp [PK.cells])
          have k5 := hxr.1.1
          have P := h2.put hxr hyg hBy 5 (.int .i64 e6) (by simp [PK.cells])
          have HD6 := Lib.hid P.1
          have HX6 := Lib.hid (show Row (v6.setCell ⟨y, 5, none⟩ (.int .i64 e6)) y (({ qh with op := e5, at_ := e6 } : PK).cells (.slice none 0 0)) from P.2.1)
          have HT6 := Lib.hid ((HT5.out.and (t2.mono fun _ e => .inl e)).and (P.2.2.mono fun _ e => .inr e))
          have hg6 : g < v6.heap.size := Nat.lt_of_lt_of_le (show g < (v5.setCell ⟨y, 4, none⟩ (.int .i64 e5)).heap.size by simpa using hg5) t2.size
          clear P hxr h2 t2 hr ho hv hs HX5 HD5 HT5
          go_wp2_with fail
          refine (m_num HD6.out 2 (by decide) 2 rfl).mono ?_
          rintro e v7 ⟨e7, b7, n7, rfl, h2, t2, hr, ho, hv⟩
          obtain ⟨s7, hs⟩ : ∃ z, z = mrO bt b7 n7 := ⟨_, rfl⟩
          have HS7 := Lib.hid (show s7 = rNr s6 2 by rw [hs, ho, HM6.out])
          have HE7 := Lib.hid (show s7.isSome = true → e7 = rN s6 2 from fun hh => by rw [hv (mrO_some (hs ▸ hh)), HM6.out])
          have HK7 := Lib.hid (show i64B e7 from ⟨by omega, hr.2.1⟩)
          have HM7 := Lib.hid hs
          have hxr := HX6.out.turnW t2 hyg
          have c6 := hxr.1.2 6 _ rfl
          have f6 := hxr.2 6 (by simp [PK.cells])
          have k6 := hxr.1.1
          have P := h2.put hxr hyg hBy 6 (.int .i64 e7) (by simp [PK.cells])
          have HD7 := Lib.hid P.1
          have HX7 := Lib.hid (show Row (v7.setCell ⟨y, 6, none⟩ (.int .i64 e7)) y (({ qh with op := e5, at_ := e6, n := e7 } : PK).cells (.slice none 0 0)) from P.2.1)
          have HT7 := Lib.hid ((HT6.out.and (t2.mono fun _ e => .inl e)).and (P.2.2.mono fun _ e => .inr e))
          have hg7 : g < v7.heap.size := Nat.lt_of_lt_of_le (show g < (v6.setCell ⟨y, 5, none⟩ (.int .i64 e6)).heap.size by simpa using hg6) t2.size
          clear P hxr h2 t2 hr ho hv hs HX6 HD6 HT6
          go_wp2_with fail
          refine (m_text HD7.out 2 (by decide) 2 rfl).mono ?_
          rintro e v8 ⟨e8, b8, n8, rfl, h2, t2, hr, ho, hv⟩
          obtain ⟨s8, hs⟩ : ∃ z, z = mrO bt b8 n8 := ⟨_, rfl⟩
          have HS8 := Lib.hid (show s8 = rTr s7 2 9223372036854775807 by rw [hs, ho, HM7.out])
          have HE8 := Lib.hid (show s8.isSome = true → e8 = rTs s7 2 9223372036854775807 from fun hh => by rw [hv (mrO_some (hs ▸ hh)), HM7.out])
          have HK8 := Lib.hid (show e8.size ≤ 1000 by omega)
          have HM8 := Lib.hid hs
          have hxr := HX7.out.turnW t2 hyg
          have c7 := hxr.1.2 7 _ rfl
          have f7 := hxr.2 7 (by simp [PK.cells])
          have k7 := hxr.1.1
          have P := h2.put hxr hyg hBy 7 (.string e8) (by simp [PK.cells])
          have HD8 := Lib.hid P.1
          have HX8 := Lib.hid (show Row (v8.setCell ⟨y, 7, none⟩ (.string e8)) y (({ qh with op := e5, at_ := e6, n := e7, data := e8 } : PK).cells (.slice none 0 0)) from P.2.1)
          have HT8 := Lib.hid ((HT7.out.and (t2.mono fun _ e => .inl e)).and (P.2.2.mono fun _ e => .inr e))
          have hg8 : g < v8.heap.size := Nat.lt_of_lt_of_le (show g < (v7.setCell ⟨y, 6, none⟩ (.int .i64 e7)).heap.size by simpa using hg7) t2.size
          clear P hxr h2 t2 hr ho hv hs HX7 HD7 HT7
          go_wp2_with fail
          refine (m_num HD8.out 8 (by decide) 8 rfl).mono ?_
          rintro e v9 ⟨e9, b9, n9, rfl, h2, t2, hr, ho, hv⟩
          obtain ⟨s9, hs⟩ : ∃ z, z = mrO bt b9 n9 := ⟨_, rfl⟩
          have HS9 := Lib.hid (show s9 = rNr s8 8 by rw [hs, ho, HM8.out])
          have HE9 := Lib.hid (show s9.isSome = true → e9 = rN s8 8 from fun hh => by rw [hv (mrO_some (hs ▸ hh)), HM8.out])
          have HK9 := Lib.hid (show i64B e9 from ⟨by omega, hr.2.1⟩)
          have HM9 := Lib.hid hs
          have hxr := HX8.out.turnW t2 hyg
          have c8 := hxr.1.2 8 _ rfl
          have f8 := hxr.2 8 (by simp [PK.cells])
          have k8 := hxr.1.1
          have P := h2.put hxr hyg hBy 8 (.int .i64 e9) (by simp [PK.cells])
          have HD9 := Lib.hid P.1
          have HX9 := Lib.hid (show Row (v9.setCell ⟨y, 8, none⟩ (.int .i64 e9)) y (({ qh with op := e5, at_ := e6, n := e7, data := e8, old := e9 } : PK).cells (.slice none 0 0)) from P.2.1)
          have HT9 := Lib.hid ((HT8.out.and (t2.mono fun _ e => .inl e)).and (P.2.2.mono fun _ e => .inr e))
          have hg9 : g < v9.heap.size := Nat.lt_of_lt_of_le (show g < (v8.setCell ⟨y, 7, none⟩ (.string e8)).heap.size by simpa using hg8) t2.size
          clear P hxr h2 t2 hr ho hv hs HX8 HD8 HT8
          go_wp2_with fail
          refine (m_num HD9.out 8 (by decide) 8 rfl).mono ?_
          rintro e v10 ⟨e10, b10, n10, rfl, h2, t2, hr, ho, hv⟩
          obtain ⟨s10, hs⟩ : ∃ z, z = mrO bt b10 n10 := ⟨_, rfl⟩
          have HS10 := Lib.hid (show s10 = rNr s9 8 by rw [hs, ho, HM9.out])
          have HE10 := Lib.hid (show s10.isSome = true → e10 = rN s9 8 from fun hh => by rw [hv (mrO_some (hs ▸ hh)), HM9.out])
          have HK10 := Lib.hid (show i64B e10 from ⟨by omega, hr.2.1⟩)
          have HM10 := Lib.hid hs
          have hxr := HX9.out.turnW t2 hyg
          have c9 := hxr.1.2 9 _ rfl
          have f9 := hxr.2 9 (by simp [PK.cells])
          have k9 := hxr.1.1
          have P := h2.put hxr hyg hBy 9 (.int .i64 e10) (by simp [PK.cells])
          have HD10 := Lib.hid P.1
          have HX10 := Lib.hid (show Row (v10.setCell ⟨y, 9, none⟩ (.int .i64 e10)) y (({ qh with op := e5, at_ := e6, n := e7, data := e8, old := e9, new := e10 } : PK).cells (.slice none 0 0)) from P.2.1)
          have HT10 := Lib.hid ((HT9.out.and (t2.mono fun _ e => .inl e)).and (P.2.2.mono fun _ e => .inr e))
          have hg10 : g < v10.heap.size := Nat.lt_of_lt_of_le (show g < (v9.setCell ⟨y, 8, none⟩ (.int .i64 e9)).heap.size by simpa using hg9) t2.size
          clear P hxr h2 t2 hr ho hv hs HX9 HD9 HT9
          have HZ := Lib.hid (show s10 = (rAsk false qh s4).2 ∧ (s10.isSome = true → ({ qh with op := e5, at_ := e6, n := e7, data := e8, old := e9, new := e10 } : PK) = (rAsk false qh s4).1) by
            refine ⟨by rw [HS10.out, HS9.out, HS8.out, HS7.out, HS6.out, HS5.out]; rfl, fun hh => ?_⟩
            have i10 : s10.isSome = true := hh
            have i9 : s9.isSome = true := rNr_is (by rw [← HS10.out]; exact i10)
            have i8 : s8.isSome = true := rNr_is (by rw [← HS9.out]; exact i9)
            have i7 : s7.isSome = true := (rTr_is (by rw [← HS8.out]; exact i8)).2
            have i6 : s6.isSome = true := rNr_is (by rw [← HS7.out]; exact i7)
            have i5 : s5.isSome = true := rNr_is (by rw [← HS6.out]; exact i6)
            rw [HE5.out i5, HE6.out i6, HE7.out i7, HE8.out i8, HE9.out i9, HE10.out i10, HS9.out, HS8.out, HS7.out, HS6.out, HS5.out]; rfl)
          have HOKZ := Lib.hid (show ({ qh with op := e5, at_ := e6, n := e7, data := e8, old := e9, new := e10 } : PK).ok from { HOKH.out with op := HK5.out, at_ := HK6.out, n := HK7.out, data := HK8.out, old := HK9.out, new := HK10.out })
          go_wp2_with fail
          go_meet
          rw [HRB.out]
          exact ⟨rfl, _, .slice none 0 0, _, _, HD10.out, HX10.out, HT10.out, by show OS _ _ _ qh.names; rw [HQN.out]; exact World.ownsRow_nil _ _ _ _, HOKZ.out, by rw [← HM10.out]; exact HZ.out.1, fun hh => HZ.out.2 (by rw [HZ.out.1]; exact hh)⟩
        by_cases k2 : e1 = 2
        · have HKK := Lib.hid (show qh.kind = 2 by rw [← HQK.out]; exact k2)
          have HRB := Lib.hid (show rBody false qh s4 = rTold false qh s4 by unfold rBody; rw [if_neg (show ¬ qh.kind = 1 by have := HKK.out; omega), if_pos HKK.out])
          subst k2
          have HX4 := HX4
          have HT4 := HT4'
          go_wp2_with fail
          refine (m_num HD4.out 1 (by decide) 1 rfl).mono ?_
          rintro e v5 ⟨e5, b5, n5, rfl, h2, t2, hr, ho, hv⟩
          obtain ⟨s5, hs⟩ : ∃ z, z = mrO bt b5 n5 := ⟨_, rfl⟩
          have HS5 := Lib.hid (show s5 = rNr s4 1 by rw [hs, ho, HM4.out])
          have HE5 := Lib.hid (show s5.isSome = true → e5 = rN s4 1 from fun hh => by rw [hv (mrO_some (hs ▸ hh)), HM4.out])
          have HK5 := Lib.hid (show i64B e5 from ⟨by omega, hr.2.1⟩)
          have HM5 := Lib.hid hs
          have hxr := HX4.out.turnW t2 hyg
          have c4 := hxr.1.2 4 _ rfl
          have f4 := hxr.2 4 (by simp [PK.cells])
          have k4 := hxr.1.1
          have P := h2.put hxr hyg hBy 4 (.int .i64 e5) (by simp [PK.cells])
          have HD5 := Lib.hid P.1
          have HX5 := Lib.hid (show Row (v5.setCell ⟨y, 4, none⟩ (.int .i64 e5)) y (({ qh with op := e5 } : PK).cells (.slice none 0 0)) from P.2.1)
          have HT5 := Lib.hid ((HT4.out.and (t2.mono fun _ e => .inl e)).and (P.2.2.mono fun _ e => .inr e))
          have hg5 : g < v5.heap.size := Nat.lt_of_lt_of_le hg7 t2.size
          clear P hxr h2 t2 hr ho hv hs HX4 HD4 HT4
          go_wp2_with fail
          refine (m_num HD5.out 1 (by decide) 1 rfl).mono ?_
          rintro e v6 ⟨e6, b6, n6, rfl, h2, t2, hr, ho, hv⟩
          obtain ⟨s6, hs⟩ : ∃ z, z = mrO bt b6 n6 := ⟨_, rfl⟩
          have HS6 := Lib.hid (show s6 = rNr s5 1 by rw [hs, ho, HM5.out])
          have HE6 := Lib.hid (show s6.isSome = true → e6 = rN s5 1 from fun hh => by rw [hv (mrO_some (hs ▸ hh)), HM5.out])
          have HK6 := Lib.hid (show i64B e6 from ⟨by omega, hr.2.1⟩)
          have HM6 := Lib.hid hs
          have hxr := HX5.out.turnW t2 hyg
          have c19 := hxr.1.2 19 _ rfl
          have f19 := hxr.2 19 (by simp [PK.cells])
          have k19 := hxr.1.1
          have P := h2.put hxr hyg hBy 19 (.int .i64 e6) (by simp [PK.cells])
          have HD6 := Lib.hid P.1
          have HX6 := Lib.hid (show Row (v6.setCell ⟨y, 19, none⟩ (.int .i64 e6)) y (({ qh with op := e5, errno := e6 } : PK).cells (.slice none 0 0)) from P.2.1)
          have HT6 := Lib.hid ((HT5.out.and (t2.mono fun _ e => .inl e)).and (P.2.2.mono fun _ e => .inr e))
          have hg6 : g < v6.heap.size := Nat.lt_of_lt_of_le (show g < (v5.setCell ⟨y, 4, none⟩ (.int .i64 e5)).heap.size by simpa using hg5) t2.size
          clear P hxr h2 t2 hr ho hv hs HX5 HD5 HT5
          go_wp2_with fail
          refine (m_text HD6.out 2 (by decide) 2 rfl).mono ?_
          rintro e v7 ⟨e7, b7, n7, rfl, h2, t2, hr, ho, hv⟩
          obtain ⟨s7, hs⟩ : ∃ z, z = mrO bt b7 n7 := ⟨_, rfl⟩
          have HS7 := Lib.hid (show s7 = rTr s6 2 9223372036854775807 by rw [hs, ho, HM6.out])
          have HE7 := Lib.hid (show s7.isSome = true → e7 = rTs s6 2 9223372036854775807 from fun hh => by rw [hv (mrO_some (hs ▸ hh)), HM6.out])
          have HK7 := Lib.hid (show e7.size ≤ 1000 by omega)
          have HM7 := Lib.hid hs
          have hxr := HX6.out.turnW t2 hyg
          have c7 := hxr.1.2 7 _ rfl
          have f7 := hxr.2 7 (by simp [PK.cells])
          have k7 := hxr.1.1
          have P := h2.put hxr hyg hBy 7 (.string e7) (by simp [PK.cells])
          have HD7 := Lib.hid P.1
          have HX7 := Lib.hid (show Row (v7.setCell ⟨y, 7, none⟩ (.string e7)) y (({ qh with op := e5, errno := e6, data := e7 } : PK).cells (.slice none 0 0)) from P.2.1)
          have HT7 := Lib.hid ((HT6.out.and (t2.mono fun _ e => .inl e)).and (P.2.2.mono fun _ e => .inr e))
          have hg7 : g < v7.heap.size := Nat.lt_of_lt_of_le (show g < (v6.setCell ⟨y, 19, none⟩ (.int .i64 e6)).heap.size by simpa using hg6) t2.size
          clear P hxr h2 t2 hr ho hv hs HX6 HD6 HT6
          go_wp2_with fail
          refine (m_num HD7.out 8 (by decide) 8 rfl).mono ?_
          rintro e v8 ⟨e8, b8, n8, rfl, h2, t2, hr, ho, hv⟩
          obtain ⟨s8, hs⟩ : ∃ z, z = mrO bt b8 n8 := ⟨_, rfl⟩
          have HS8 := Lib.hid (show s8 = rNr s7 8 by rw [hs, ho, HM7.out])
          have HE8 := Lib.hid (show s8.isSome = true → e8 = rN s7 8 from fun hh => by rw [hv (mrO_some (hs ▸ hh)), HM7.out])
          have HK8 := Lib.hid (show i64B e8 from ⟨by omega, hr.2.1⟩)
          have HM8 := Lib.hid hs
          have hxr := HX7.out.turnW t2 hyg
          have c8 := hxr.1.2 8 _ rfl
          have f8 := hxr.2 8 (by simp [PK.cells])
          have k8 := hxr.1.1
          have P := h2.put hxr hyg hBy 8 (.int .i64 e8) (by simp [PK.cells])
          have HD8 := Lib.hid P.1
          have HX8 := Lib.hid (show Row (v8.setCell ⟨y, 8, none⟩ (.int .i64 e8)) y (({ qh with op := e5, errno := e6, data := e7, old := e8 } : PK).cells (.slice none 0 0)) from P.2.1)
          have HT8 := Lib.hid ((HT7.out.and (t2.mono fun _ e => .inl e)).and (P.2.2.mono fun _ e => .inr e))
          have hg8 : g < v8.heap.size := Nat.lt_of_lt_of_le (show g < (v7.setCell ⟨y, 7, none⟩ (.string e7)).heap.size by simpa using hg7) t2.size
          clear P hxr h2 t2 hr ho hv hs HX7 HD7 HT7
          have HZ := Lib.hid (show s8 = (rTold false qh s4).2 ∧ (s8.isSome = true → ({ qh with op := e5, errno := e6, data := e7, old := e8 } : PK) = (rTold false qh s4).1) by
            refine ⟨by rw [HS8.out, HS7.out, HS6.out, HS5.out]; rfl, fun hh => ?_⟩
            have i8 : s8.isSome = true := hh
            have i7 : s7.isSome = true := rNr_is (by rw [← HS8.out]; exact i8)
            have i6 : s6.isSome = true := (rTr_is (by rw [← HS7.out]; exact i7)).2
            have i5 : s5.isSome = true := rNr_is (by rw [← HS6.out]; exact i6)
            rw [HE5.out i5, HE6.out i6, HE7.out i7, HE8.out i8, HS7.out, HS6.out, HS5.out]; rfl)
          have HOKZ := Lib.hid (show ({ qh with op := e5, errno := e6, data := e7, old := e8 } : PK).ok from { HOKH.out with op := HK5.out, errno := HK6.out, data := HK7.out, old := HK8.out })
          go_wp2_with fail
          go_meet
          rw [HRB.out]
          exact ⟨rfl, _, .slice none 0 0, _, _, HD8.out, HX8.out, HT8.out, by show OS _ _ _ qh.names; rw [HQN.out]; exact World.ownsRow_nil _ _ _ _, HOKZ.out, by rw [← HM8.out]; exact HZ.out.1, fun hh => HZ.out.2 (by rw [HZ.out.1]; exact hh)⟩
        by_cases k3 : e1 = 3
        · have HKK := Lib.hid (show qh.kind = 3 by rw [← HQK.out]; exact k3)
          have HRB := Lib.hid (show rBody false qh s4 = rRAsk false qh s4 by unfold rBody; rw [if_neg (show ¬ qh.kind = 1 by have := HKK.out; omega), if_neg (show ¬ qh.kind = 2 by have := HKK.out; omega), if_pos HKK.out])
          subst k3
          have HX4 := HX4
          have HT4 := HT4'
          go_wp2_with fail
          refine (m_num HD4.out 1 (by decide) 1 rfl).mono ?_
          rintro e v5 ⟨e5, b5, n5, rfl, h2, t2, hr, ho, hv⟩
          obtain ⟨s5, hs⟩ : ∃ z, z = mrO bt b5 n5 := ⟨_, rfl⟩
          have HS5 := Lib.hid (show s5 = rNr s4 1 by rw [hs, ho, HM4.out])
          have HE5 := Lib.hid (show s5.isSome = true → e5 = rN s4 1 from fun hh => by rw [hv (mrO_some (hs ▸ hh)), HM4.out])
          have HK5 := Lib.hid (show i64B e5 from ⟨by omega, hr.2.1⟩)
          have HM5 := Lib.hid hs
          have hxr := HX4.out.turnW t2 hyg
          have c4 := hxr.1.2 4 _ rfl
          have f4 := hxr.2 4 (by simp [PK.cells])
          have k4 := hxr.1.1
          have P := h2.put hxr hyg hBy 4 (.int .i64 e5) (by simp [PK.cells])
          have HD5 := Lib.hid P.1
          have HX5 := Lib.hid (show Row (v5.setCell ⟨y, 4, none⟩ (.int .i64 e5)) y (({ qh with op := e5 } : PK).cells (.slice none 0 0)) from P.2.1)
          have HT5 := Lib.hid ((HT4.out.and (t2.mono fun _ e => .inl e)).and (P.2.2.mono fun _ e => .inr e))
          have hg5 : g < v5.heap.size := Nat.lt_of_lt_of_le hg7 t2.size
          clear P hxr h2 t2 hr ho hv hs HX4 HD4 HT4
          go_wp2_with fail
          refine (m_num HD5.out 1 (by decide) 1 rfl).mono ?_
          rintro e v6 ⟨e6, b6, n6, rfl, h2, t2, hr, ho, hv⟩
          obtain ⟨s6, hs⟩ : ∃ z, z = mrO bt b6 n6 := ⟨_, rfl⟩
          have HS6 := Lib.hid (show s6 = rNr s5 1 by rw [hs, ho, HM5.out])
          have HE6 := Lib.hid (show s6.isSome = true → e6 = rN s5 1 from fun hh => by rw [hv (mrO_some (hs ▸ hh)), HM5.out])
          have HK6 := Lib.hid (show i64B e6 from ⟨by omega, hr.2.1⟩)
          have HM6 := Lib.hid hs
          have hxr := HX5.out.turnW t2 hyg
          have c18 := hxr.1.2 18 _ rfl
          have f18 := hxr.2 18 (by simp [PK.cells])
          have k18 := hxr.1.1
          have P := h2.put hxr hyg hBy 18 (.int .i64 e6) (by simp [PK.cells])
          have HD6 := Lib.hid P.1
          have HX6 := Lib.hid (show Row (v6.setCell ⟨y, 18, none⟩ (.int .i64 e6)) y (({ qh with op := e5, ino := e6 } : PK).cells (.slice none 0 0)) from P.2.1)
          have HT6 := Lib.hid ((HT5.out.and (t2.mono fun _ e => .inl e)).and (P.2.2.mono fun _ e => .inr e))
          have hg6 : g < v6.heap.size := Nat.lt_of_lt_of_le (show g < (v5.setCell ⟨y, 4, none⟩ (.int .i64 e5)).heap.size by simpa using hg5) t2.size
          clear P hxr h2 t2 hr ho hv hs HX5 HD5 HT5
          go_wp2_with fail
          refine (m_text HD6.out 1 (by decide) 1 rfl).mono ?_
          rintro e v7 ⟨e7, b7, n7, rfl, h2, t2, hr, ho, hv⟩
          obtain ⟨s7, hs⟩ : ∃ z, z = mrO bt b7 n7 := ⟨_, rfl⟩
          have HS7 := Lib.hid (show s7 = rTr s6 1 9223372036854775807 by rw [hs, ho, HM6.out])
          have HE7 := Lib.hid (show s7.isSome = true → e7 = rTs s6 1 9223372036854775807 from fun hh => by rw [hv (mrO_some (hs ▸ hh)), HM6.out])
          have HK7 := Lib.hid (show e7.size ≤ 1000 by omega)
          have HM7 := Lib.hid hs
          have hxr := HX6.out.turnW t2 hyg
          have c11 := hxr.1.2 11 _ rfl
          have f11 := hxr.2 11 (by simp [PK.cells])
          have k11 := hxr.1.1
          have P := h2.put hxr hyg hBy 11 (.string e7) (by simp [PK.cells])
          have HD7 := Lib.hid P.1
          have HX7 := Lib.hid (show Row (v7.setCell ⟨y, 11, none⟩ (.string e7)) y (({ qh with op := e5, ino := e6, path := e7 } : PK).cells (.slice none 0 0)) from P.2.1)
          have HT7 := Lib.hid ((HT6.out.and (t2.mono fun _ e => .inl e)).and (P.2.2.mono fun _ e => .inr e))
          have hg7 : g < v7.heap.size := Nat.lt_of_lt_of_le (show g < (v6.setCell ⟨y, 18, none⟩ (.int .i64 e6)).heap.size by simpa using hg6) t2.size
          clear P hxr h2 t2 hr ho hv hs HX6 HD6 HT6
          go_wp2_with fail
          refine (m_text HD7.out 1 (by decide) 1 rfl).mono ?_
          rintro e v8 ⟨e8, b8, n8, rfl, h2, t2, hr, ho, hv⟩
          obtain ⟨s8, hs⟩ : ∃ z, z = mrO bt b8 n8 := ⟨_, rfl⟩
          have HS8 := Lib.hid (show s8 = rTr s7 1 9223372036854775807 by rw [hs, ho, HM7.out])
          have HE8 := Lib.hid (show s8.isSome = true → e8 = rTs s7 1 9223372036854775807 from fun hh => by rw [hv (mrO_some (hs ▸ hh)), HM7.out])
          have HK8 := Lib.hid (show e8.size ≤ 1000 by omega)
          have HM8 := Lib.hid hs
          have hxr := HX7.out.turnW t2 hyg
          have c12 := hxr.1.2 12 _ rfl
          have f12 := hxr.2 12 (by simp [PK.cells])
          have k12 := hxr.1.1
          have P := h2.put hxr hyg hBy 12 (.string e8) (by simp [PK.cells])
          have HD8 := Lib.hid P.1
          have HX8 := Lib.hid (show Row (v8.setCell ⟨y, 12, none⟩ (.string e8)) y (({ qh with op := e5, ino := e6, path := e7, path2 := e8 } : PK).cells (.slice none 0 0)) from P.2.1)
          have HT8 := Lib.hid ((HT7.out.and (t2.mono fun _ e => .inl e)).and (P.2.2.mono fun _ e => .inr e))
          have hg8 : g < v8.heap.size := Nat.lt_of_lt_of_le (show g < (v7.setCell ⟨y, 11, none⟩ (.string e7)).heap.size by simpa using hg7) t2.size
          clear P hxr h2 t2 hr ho hv hs HX7 HD7 HT7
          go_wp2_with fail
          refine (m_num HD8.out 1 (by decide) 1 rfl).mono ?_
          rintro e v9 ⟨e9, b9, n9, rfl, h2, t2, hr, ho, hv⟩
          obtain ⟨s9, hs⟩ : ∃ z, z = mrO bt b9 n9 := ⟨_, rfl⟩
          have HS9 := Lib.hid (show s9 = rNr s8 1 by rw [hs, ho, HM8.out])
          have HE9 := Lib.hid (show s9.isSome = true → e9 = rN s8 1 from fun hh => by rw [hv (mrO_some (hs ▸ hh)), HM8.out])
          have HK9 := Lib.hid (show i64B e9 from ⟨by omega, hr.2.1⟩)
          have HM9 := Lib.hid hs
          have hxr := HX8.out.turnW t2 hyg
          have c13 := hxr.1.2 13 _ rfl
          have f13 := hxr.2 13 (by simp [PK.cells])
          have k13 := hxr.1.1
          have P := h2.put hxr hyg hBy 13 (.int .i64 e9) (by simp [PK.cells])
          have HD9 := Lib.hid P.1
          have HX9 := Lib.hid (show Row (v9.setCell ⟨y, 13, none⟩ (.int .i64 e9)) y (({ qh with op := e5, ino := e6, path := e7, path2 := e8, flags := e9 } : PK).cells (.slice none 0 0)) from P.2.1)
          have HT9 := Lib.hid ((HT8.out.and (t2.mono fun _ e => .inl e)).and (P.2.2.mono fun _ e => .inr e))
          have hg9 : g < v9.heap.size := Nat.lt_of_lt_of_le (show g < (v8.setCell ⟨y, 12, none⟩ (.string e8)).heap.size by simpa using hg8) t2.size
          clear P hxr h2 t2 hr ho hv hs HX8 HD8 HT8
          go_wp2_with fail
          refine (m_num HD9.out 4 (by decide) 4 rfl).mono ?_
          rintro e v10 ⟨e10, b10, n10, rfl, h2, t2, hr, ho, hv⟩
          obtain ⟨s10, hs⟩ : ∃ z, z = mrO bt b10 n10 := ⟨_, rfl⟩
          have HS10 := Lib.hid (show s10 = rNr s9 4 by rw [hs, ho, HM9.out])
          have HE10 := Lib.hid (show s10.isSome = true → e10 = rN s9 4 from fun hh => by rw [hv (mrO_some (hs ▸ hh)), HM9.out])
          have HK10 := Lib.hid (show i64B e10 from ⟨by omega, hr.2.1⟩)
          have HM10 := Lib.hid hs
          have hxr := HX9.out.turnW t2 hyg
          have c16 := hxr.1.2 16 _ rfl
          have f16 := hxr.2 16 (by simp [PK.cells])
          have k16 := hxr.1.1
          have P := h2.put hxr hyg hBy 16 (.int .i64 e10) (by simp [PK.cells])
          have HD10 := Lib.hid P.1
          have HX10 := Lib.hid (show Row (v10.setCell ⟨y, 16, none⟩ (.int .i64 e10)) y (({ qh with op := e5, ino := e6, path := e7, path2 := e8, flags := e9, cn := e10 } : PK).cells (.slice none 0 0)) from P.2.1)
          have HT10 := Lib.hid ((HT9.out.and (t2.mono fun _ e => .inl e)).and (P.2.2.mono fun _ e => .inr e))
          have hg10 : g < v10.heap.size := Nat.lt_of_lt_of_le (show g < (v9.setCell ⟨y, 13, none⟩ (.int .i64 e9)).heap.size by simpa using hg9) t2.size
          clear P hxr h2 t2 hr ho hv hs HX9 HD9 HT9
          have HZ := Lib.hid (show s10 = (rRAsk false qh s4).2 ∧ (s10.isSome = true → ({ qh with op := e5, ino := e6, path := e7, path2 := e8, flags := e9, cn := e10 } : PK) = (rRAsk false qh s4).1) by
            refine ⟨by rw [HS10.out, HS9.out, HS8.out, HS7.out, HS6.out, HS5.out]; rfl, fun hh => ?_⟩
            have i10 : s10.isSome = true := hh
            have i9 : s9.isSome = true := rNr_is (by rw [← HS10.out]; exact i10)
            have i8 : s8.isSome = true := rNr_is (by rw [← HS9.out]; exact i9)
            have i7 : s7.isSome = true := (rTr_is (by rw [← HS8.out]; exact i8)).2
            have i6 : s6.isSome = true := (rTr_is (by rw [← HS7.out]; exact i7)).2
            have i5 : s5.isSome = true := rNr_is (by rw [← HS6.out]; exact i6)
            rw [HE5.out i5, HE6.out i6, HE7.out i7, HE8.out i8, HE9.out i9, HE10.out i10, HS9.out, HS8.out, HS7.out, HS6.out, HS5.out]; rfl)
          have HOKZ := Lib.hid (show ({ qh with op := e5, ino := e6, path := e7, path2 := e8, flags := e9, cn := e10 } : PK).ok from { HOKH.out with op := HK5.out, ino := HK6.out, path := HK7.out, path2 := HK8.out, flags := HK9.out, cn := HK10.out })
          go_wp2_with fail
          go_meet
          rw [HRB.out]
          exact ⟨rfl, _, .slice none 0 0, _, _, HD10.out, HX10.out, HT10.out, by show OS _ _ _ qh.names; rw [HQN.out]; exact World.ownsRow_nil _ _ _ _, HOKZ.out, by rw [← HM10.out]; exact HZ.out.1, fun hh => HZ.out.2 (by rw [HZ.out.1]; exact hh)⟩
        by_cases k4 : e1 = 4
        · have HKK := Lib.hid (show qh.kind = 4 by rw [← HQK.out]; exact k4)
          have HRB := Lib.hid (show rBody false qh s4 = rRTold false qh s4 by unfold rBody; rw [if_neg (show ¬ qh.kind = 1 by have := HKK.out; omega), if_neg (show ¬ qh.kind = 2 by have := HKK.out; omega), if_neg (show ¬ qh.kind = 3 by have := HKK.out; omega), if_pos HKK.out])
          subst k4
          have hq4 := HQN.out
          go_wp2_with fail
          refine (m_told HD4.out qh HOKH.out HQN.out HX4.out hyg hBy (by omega)).mono ?_
          rintro e v5 ⟨rfl, hb⟩
          have HB5 := Lib.hid hb
          clear hb hq4
          go_wp2_with fail
          go_meet
          rw [HRB.out, HM4.out]
          exact ⟨rfl, HB5.out⟩
        by_cases k5 : e1 = 5
        · have HKK := Lib.hid (show qh.kind = 5 by rw [← HQK.out]; exact k5)
          have HRB := Lib.hid (show rBody false qh s4 = rRecall qh s4 by unfold rBody; rw [if_neg (show ¬ qh.kind = 1 by have := HKK.out; omega), if_neg (show ¬ qh.kind = 2 by have := HKK.out; omega), if_neg (show ¬ qh.kind = 3 by have := HKK.out; omega), if_neg (show ¬ qh.kind = 4 by have := HKK.out; omega), if_pos HKK.out])
          subst k5
          have HX4 := HX4
          have HT4 := HT4'
          go_wp2_with fail
          refine (m_num HD4.out 1 (by decide) 1 rfl).mono ?_
          rintro e v5 ⟨e5, b5, n5, rfl, h2, t2, hr, ho, hv⟩
          obtain ⟨s5, hs⟩ : ∃ z, z = mrO bt b5 n5 := ⟨_, rfl⟩
          have HS5 := Lib.hid (show s5 = rNr s4 1 by rw [hs, ho, HM4.out])
          have HE5 := Lib.hid (show s5.isSome = true → e5 = rN s4 1 from fun hh => by rw [hv (mrO_some (hs ▸ hh)), HM4.out])
          have HK5 := Lib.hid (show i64B e5 from ⟨by omega, hr.2.1⟩)
          have HM5 := Lib.hid hs
          have hxr := HX4.out.turnW t2 hyg
          have c18 := hxr.1.2 18 _ rfl
          have f18 := hxr.2 18 (by simp [PK.cells])
          have k18 := hxr.1.1
          have P := h2.put hxr hyg hBy 18 (.int .i64 e5) (by simp [PK.cells])
          have HD5 := Lib.hid P.1
          have HX5 := Lib.hid (show Row (v5.setCell ⟨y, 18, none⟩ (.int .i64 e5)) y (({ qh with ino := e5 } : PK).cells (.slice none 0 0)) from P.2.1)
          have HT5 := Lib.hid ((HT4.out.and (t2.mono fun _ e => .inl e)).and (P.2.2.mono fun _ e => .inr e))
          have hg5 : g < v5.heap.size := Nat.lt_of_lt_of_le hg7 t2.size
          clear P hxr h2 t2 hr ho hv hs HX4 HD4 HT4
          have HZ := Lib.hid (show s5 = (rRecall qh s4).2 ∧ (s5.isSome = true → ({ qh with ino := e5 } : PK) = (rRecall qh s4).1) by
            refine ⟨by rw [HS5.out]; rfl, fun hh => ?_⟩
            have i5 : s5.isSome = true := hh
            rw [HE5.out i5]; rfl)
          have HOKZ := Lib.hid (show ({ qh with ino := e5 } : PK).ok from { HOKH.out with ino := HK5.out })
          go_wp2_with fail
          go_meet
          rw [HRB.out]
          exact ⟨rfl, _, .slice none 0 0, _, _, HD5.out, HX5.out, HT5.out, by show OS _ _ _ qh.names; rw [HQN.out]; exact World.ownsRow_nil _ _ _ _, HOKZ.out, by rw [← HM5.out]; exact HZ.out.1, fun hh => HZ.out.2 (by rw [HZ.out.1]; exact hh)⟩
        have q1 : (e1 == 1) = false := beq_eq_false_iff_ne.2 k1
        have q2 : (e1 == 2) = false := beq_eq_false_iff_ne.2 k2
        have q3 : (e1 == 3) = false := beq_eq_false_iff_ne.2 k3
        have q4 : (e1 == 4) = false := beq_eq_false_iff_ne.2 k4
        have q5 : (e1 == 5) = false := beq_eq_false_iff_ne.2 k5
        have HRB := Lib.hid (show rBody false qh s4 = (qh, s4) by
          have := HQK.out
          unfold rBody
          rw [if_neg (by omega), if_neg (by omega), if_neg (by omega), if_neg (by omega), if_neg (by omega)]; rfl)
        clear k1 k2 k3 k4 k5
        go_wp2_with fail
        go_meet
        rw [HRB.out]
        exact ⟨rfl, qh, .slice none 0 0, _, _, HD4.out, HX4.out, HT4'.out, by rw [HQN.out]; exact World.ownsRow_nil _ _ _ _, HOKH.out, HM4.out.symm, fun _ => rfl⟩
      case rest =>
        obtain ⟨rfl, q, nv, b8, n8, h8, r8, t8, os8, ok8, ho8, hq8⟩ := hcut
        have HTZ := Lib.hid (HT4.out.and t8)
        have HD8 := Lib.hid h8
        have HR8 := Lib.hid r8
        have HOS8 := Lib.hid os8
        have HOK8 := Lib.hid ok8
        have HH8 := Lib.hid ho8
        have HQ8 := Lib.hid hq8
        have hyc := r8.1.1
        have hxs : w6.heap.size ≤ wc.heap.size := HTZ.out.size
        have hws : w.heap.size ≤ w7.heap.size := by have := HT4.out.size; have := HG6.out.size; omega
        have hx7 : x < w7.heap.size := by have := HROW6.out.1.1; have := HT4.out.size; omega
        obtain ⟨A8, c8, rfl, hrs⟩ := RS.of_OS os8
        have hcall := m_innerC (c := c8) q ok8 rfl hrs
        obtain ⟨k8, hk8⟩ : ∃ z, z = q.names.length := ⟨_, rfl⟩
        rw [← hk8] at hcall HR8
        have HK8 := Lib.hid hk8
        clear h8 r8 t8 os8 ok8 ho8 hq8 hrs c0 hk8
        go_upto_region 36 with (fail)
        refine wp_region_list ?_
        refine wpList_loadRow rfl 35 (.tmp 6) rfl (some 113) rfl y rfl (q.cells (.slice A8 k8 c8)) _ HR8.out.1 Try.underlying35 rfl pk_size ?_
        go_simp
        refine wpList_callC rfl (some 114) rfl 27 #[.agg (q.cells (.slice A8 k8 c8)).toArray] (by first | rfl | go_simp) _ hcall (fun e w' h => by obtain ⟨v, b, h, -⟩ := h; exact ⟨_, h⟩) ?_
        rintro v w9 ⟨v2, may, he, hmay, -, g9⟩
        obtain rfl : v = .tuple #[v2, .bool may] := by injection he
        have HMAY := Lib.hid hmay.out
        have HD9 := Lib.hid (HD8.out.keep g9)
        have HR9 := Lib.hid (HR8.out.keep g9)
        have HROW9 := Lib.hid ((HROW6.out.turnW HTZ.out (by omega)).keep g9)
        have HOS9 := Lib.hid (HOS8.out.keep g9)
        have HG9 := Lib.hid (show Grow w w9 from HG6.out.low ((HTZ.out.low (B := w.heap.size) (fun i e => by have e' : i = g ∨ i = y := e; omega) HG6.out.size).trans (Below.mono g9 (by omega))))
        have HOKK := Lib.hid (read_ok HH8.out HHD.out.1 HHD.out.2 HQ8.out (by have := HD9.out.le; omega) HMAY.out)
        have hb8 : b8 ≤ m := HD9.out.le
        have hyc9 := HR9.out.1.1
        clear he hmay g9 hcall hyc HD8 HR8 HROW6 HOS8
        go_simp
        refine wpList_runTo rfl (some 112) rfl (.tuple #[v2, .bool may]) w9 (by first | rfl | go_simp) ?_
        refine wpList_runTo rfl (some 115) rfl v2 w9 (by go_simp) ?_
        refine wpList_runTo rfl (some 116) rfl (.bool may) w9 (by go_simp) ?_
        go_simp
        go_upto_region 37 with (fail)
        have d0 := HD9.out.blk.1.2 0 _ rfl
        have d1 := HD9.out.blk.1.2 1 _ rfl
        have d2 := HD9.out.blk.1.2 2 _ rfl
        go_cut [136] (fun u wx => u = .bool (!okP bt) ∧ Grow w9 wx)
        case first =>
          have HOB := Lib.hid HOKK.out.1
          rw [hln] at HOB
          cases n8 with
          | true =>
            have HV := Lib.hid (show (!okP bt) = true by rw [← HOB.out]; rfl)
            go_wp2_with fail
            go_quiet (fail)
            go_wp2_with fail
            go_meet
            rw [HV.out]
            exact ⟨rfl, (Grow.refl _).drewN _⟩
          | false =>
            by_cases hbm : b8 = m
            · have y1 : ((b8 : Int) != (m : Int)) = false := by rw [bne_eq_false_iff_eq]; omega
              have HBM := Lib.hid (show decide (b8 ≠ m) = false from decide_eq_false (by omega))
              clear hbm
              cases may with
              | true =>
                have HV := Lib.hid (show (!okP bt) = false by rw [← HOB.out, HBM.out]; rfl)
                go_wp2_with fail
                go_quiet (fail)
                go_wp2_with fail
                go_meet
                rw [HV.out]
                exact ⟨rfl, (Grow.refl _).drewN _⟩
              | false =>
                have HV := Lib.hid (show (!okP bt) = true by rw [← HOB.out, HBM.out]; rfl)
                go_wp2_with fail
                go_quiet (fail)
                go_wp2_with fail
                go_meet
                rw [HV.out]
                exact ⟨rfl, (Grow.refl _).drewN _⟩
            · have y1 : ((b8 : Int) != (m : Int)) = true := by rw [bne_iff_ne]; omega
              have HV := Lib.hid (show (!okP bt) = true by rw [← HOB.out, decide_eq_true hbm]; rfl)
              clear hbm
              go_wp2_with fail
              go_quiet (fail)
              go_wp2_with fail
              go_meet
              rw [HV.out]
              exact ⟨rfl, (Grow.refl _).drewN _⟩
        case rest =>
          obtain ⟨rfl, gz⟩ := hcut
          obtain ⟨wz, hwz⟩ : ∃ z, z = wc := ⟨_, rfl⟩
          have HRZ := Lib.hid (HR9.out.keep gz)
          have HROWZ := Lib.hid (HROW9.out.keep gz)
          have HOSZ := Lib.hid (HOS9.out.keep gz)
          have HGZ := Lib.hid (HG9.out.trans gz)
          have HSQ2 := Lib.hid (show getN bs ((bs.length - 4 : Nat) : Int) 4 = (crcN (bs.take (bs.length - 4)) : Nat) by rw [HEL.out]; exact HSM.out)
          clear gz hwz d0 d1 d2 HR9 HROW9 HOS9 HD9
          cases hk : okP bt with
          | false =>
            have HSS := Lib.hid (rdE_bad h4' HSQ2.out (by rw [HEL.out, ← HBT.out]; exact hk))
            clear hk
            go_upto_region 38 with (fail)
            refine wp_region_list ?_
            refine wpList_buildTo rfl 35 #[] rfl (some 137) rfl zP.toArray (by kernel_rfl) ?_
            refine wpList_storeRow rfl 35 (.tmp 2) (.tmp 137) rfl rfl x rfl zP zP rfl HROWZ.out rfl pk_size zP_one ?_
            intro wy ry ty zy
            have HRY := Lib.hid ry
            have HTY := Lib.hid ty
            clear ry ty zy
            go_wp2_with fail
            obtain ⟨s1, s2⟩ := HSS.out
            refine bodyPost_ret (mread_ret rfl rfl HRY.out.1 rfl) rfl ⟨.slice none 0 0, by rw [s1, s2]; rfl, ?_, ?_⟩
            · exact HGZ.out.low (HTY.out.low (fun i e => by have := HX.out; have e' : i = x := e; omega) HGZ.out.size)
            · rw [s2]; exact World.ownsRow_nil _ _ _ _
          | true =>
            have HSS := Lib.hid (rdE_ok h4' HSQ2.out (by rw [HEL.out, ← HBT.out]; exact hk))
            have HQQ := Lib.hid (HOKK.out.2 hk)
            clear hk
            go_upto_region 39 with (fail)
            refine wp_region_list ?_
            refine wpList_loadRow rfl 35 (.tmp 6) rfl (some 138) rfl y rfl (q.cells (.slice A8 k8 c8)) _ HRZ.out.1 Try.underlying35 rfl pk_size ?_
            refine wpList_storeRow rfl 35 (.tmp 2) (.tmp 138) rfl rfl x rfl (q.cells (.slice A8 k8 c8)) zP rfl HROWZ.out rfl pk_size (PK.one _ rfl) ?_
            intro wy ry ty zy
            have HRY := Lib.hid ry
            have HTY := Lib.hid ty
            clear ry ty zy
            go_wp2_with fail
            obtain ⟨s1, s2⟩ := HSS.out
            have hz : q = rdV bs := by rw [s2, HQQ.out, HBT.out, HEL.out]
            rw [HK8.out] at HRY
            rw [hz] at HRY HOSZ
            refine bodyPost_ret (mread_ret rfl rfl HRY.out.1 rfl) rfl ⟨.slice A8 (rdV bs).names.length c8, by rw [s1]; rfl, ?_, ?_⟩
            · exact HGZ.out.low (HTY.out.low (fun i e => by have := HX.out; have e' : i = x := e; omega) HGZ.out.size)
            · exact HOSZ.out.keepOff HTY.out hx7 hws
end Go.Proofs.Ytgjcpchlijpjmaa

namespace Go.Proofs.Ytgjcpchlijpjmaa
open Go.RowKit Go.Great

/-- At most so many bytes of a text. -/
def cutS (k : Nat) (s : ByteArray) : ByteArray := if k < s.size then s.extract 0 k else s
theorem cutS_size (k : Nat) (s : ByteArray) : (cutS k s).size ≤ k := by
  unfold cutS
  split
  · rw [ByteArray.size_extract]; omega
  · omega
theorem cutS_yes {k : Nat} {s : ByteArray} (h : k < s.size) : cutS k s = s.extract 0 k := if_pos h
theorem cutS_no {k : Nat} {s : ByteArray} (h : ¬ k < s.size) : cutS k s = s := if_neg h
def fewP (p : PK) : PK := { p with data := cutS 150 p.data, path := cutS 150 p.path, path2 := cutS 150 p.path2, names := (p.names.take 20).map (cutS 20) }

theorem few_ret {w : World} {y : Nat} {vs : List Value} {tmps : Array Value} (h2 : tmps.getD 2 undef = .pointer (some ⟨y, 0, none⟩)) (hg : Blk w y vs) (hsz : vs.length = 43) :
    (results Try.f9 tmps).run Try.prog w = .ok (.agg vs.toArray) w := by
  have hp' : tmps[2]?.getD undef = .pointer (some ⟨y, 0, none⟩) := by simpa using h2
  simp [results, Try.results9, hp', asAddr, run_loadVar_mid (P := Try.prog) w y 0 35 vs _ hg.range Try.underlying35 rfl (by rw [hsz]; exact pk_size)]
theorem wpList_appW {w : World} {ops : Array Oper} {rest : List Oper} {o : Oper} {a : Act} {Q : Exit → Act → World → Prop} (hgd : o.guard = none) (s x : Operand)
    (ho : o.op = .call { callee := .builtin .append, args := #[s, x], argTypes := #[25, 25] })
    (base : Nat) (v : Value) (L : List ByteArray) (hs : a.eval s = v) (r : ByteArray) (B : Nat) (A : Option Addr) (hx : a.eval x = .slice A 1 1) (hr : Rd w B A 1 1 (sts [r])) (hown : OS w base v L)
    (h63 : L.length + 1 ≤ 1000000) (hbase : base ≤ w.heap.size)
    (h : ∀ v' w', OS w' base v' (L ++ [r]) → w.grownBy w' v.ownBlock → wpList Try.prog ops Q rest (a.put o.dst v') w') : wpList Try.prog ops Q (o :: rest) a w := by
  obtain ⟨i0, hi, hz, h1, h2⟩ := info_parts str_info
  refine wpList_app hgd s x _ ho base 9 i0 _ 1 16 Try.underlying25 hi hz h1 h2 rfl (by omega) v L.length (sts L) hs hown B A 1 1 (sts [r]) hx hr (sts_one [r]) (by unfold maxLen; omega) (by omega) hbase ?_
  intro v' w' h3 h4 _
  exact h v' w' (by unfold OS; rw [List.length_append, sts_append]; exact h3) h4
theorem Turn.and' {F G : Nat → Prop} {a b c : World} (h : Turn F a b) (k : Turn G b c) : Turn (fun j => F j ∨ G j) a c := (h.mono fun _ e => .inl e).and (k.mono fun _ e => .inr e)
def FwInv (w5 wr : World) (l i : Value) (p : PK) (m : Nat) : Prop := ∃ (k : Nat) (nv : Value), nv = l ∧ i = .int .i64 (k : Int) ∧ k ≤ m ∧ k ≤ 20 ∧ OS wr w5.heap.size nv ((p.names.take k).map (cutS 20)) ∧ Turn (fun j => w5.heap.size ≤ j) w5 wr

set_option maxHeartbeats 8000000 in
set_option maxRecDepth 8000 in
theorem few_l {w : World} {A : Option Addr} {m c : Nat} (p : PK) (hr : RS w A m p.names) :
    Calls Try.prog 9 #[.agg (p.cells (.slice A m c)).toArray] w fun e w' => ∃ nv, e = .returned (.agg ((fewP p).cells nv).toArray) ∧ Grow w w' ∧ OS w' w.heap.size nv (fewP p).names := by
  have HR0 := Lib.hid hr
  clear hr
  rw [show (p.cells (.slice A m c)).toArray = #[.int .i64 p.kind, .int .i64 p.client, .int .i64 p.epoch, .int .i64 p.seq, .int .i64 p.op, .int .i64 p.at_, .int .i64 p.n, .string p.data, .int .i64 p.old, .int .i64 p.new, .int .i64 p.ckind, .string p.path, .string p.path2, .int .i64 p.flags, .int .i64 p.cfd, .int .i64 p.coff, .int .i64 p.cn, .string p.cdata, .int .i64 p.ino, .int .i64 p.errno, .int .i64 p.rerrno, .int .i64 p.rfd, .string p.rdata, .slice A m c, .int .i64 p.ikind, .int .i64 p.ilinks, .int .i64 p.isize, .int .i64 p.wrote, .int .i64 p.nkind, .int .i64 p.nlinks, .int .i64 p.nsize, .int .i64 p.b0, .int .i64 p.b1, .int .i64 p.b2, .int .i64 p.b3, .int .i64 p.o0, .int .i64 p.o1, .int .i64 p.o2, .int .i64 p.o3, .int .i64 p.o4, .int .i64 p.o5, .int .i64 p.o6, .int .i64 p.o7] from rfl]
  go_enter Try.func9, Try.ntmps9
  go_upto_region 1 with (fail)
  have hb := Row.new w 35 (p.cells (.slice A m c)) #[.int .i64 p.kind, .int .i64 p.client, .int .i64 p.epoch, .int .i64 p.seq, .int .i64 p.op, .int .i64 p.at_, .int .i64 p.n, .string p.data, .int .i64 p.old, .int .i64 p.new, .int .i64 p.ckind, .string p.path, .string p.path2, .int .i64 p.flags, .int .i64 p.cfd, .int .i64 p.coff, .int .i64 p.cn, .string p.cdata, .int .i64 p.ino, .int .i64 p.errno, .int .i64 p.rerrno, .int .i64 p.rfd, .string p.rdata, .slice A m c, .int .i64 p.ikind, .int .i64 p.ilinks, .int .i64 p.isize, .int .i64 p.wrote, .int .i64 p.nkind, .int .i64 p.nlinks, .int .i64 p.nsize, .int .i64 p.b0, .int .i64 p.b1, .int .i64 p.b2, .int .i64 p.b3, .int .i64 p.o0, .int .i64 p.o1, .int .i64 p.o2, .int .i64 p.o3, .int .i64 p.o4, .int .i64 p.o5, .int .i64 p.o6, .int .i64 p.o7] rfl
  have ga := (Grow.refl w).alloc (.cells #[.int .i64 p.kind, .int .i64 p.client, .int .i64 p.epoch, .int .i64 p.seq, .int .i64 p.op, .int .i64 p.at_, .int .i64 p.n, .string p.data, .int .i64 p.old, .int .i64 p.new, .int .i64 p.ckind, .string p.path, .string p.path2, .int .i64 p.flags, .int .i64 p.cfd, .int .i64 p.coff, .int .i64 p.cn, .string p.cdata, .int .i64 p.ino, .int .i64 p.errno, .int .i64 p.rerrno, .int .i64 p.rfd, .string p.rdata, .slice A m c, .int .i64 p.ikind, .int .i64 p.ilinks, .int .i64 p.isize, .int .i64 p.wrote, .int .i64 p.nkind, .int .i64 p.nlinks, .int .i64 p.nsize, .int .i64 p.b0, .int .i64 p.b1, .int .i64 p.b2, .int .i64 p.b3, .int .i64 p.o0, .int .i64 p.o1, .int .i64 p.o2, .int .i64 p.o3, .int .i64 p.o4, .int .i64 p.o5, .int .i64 p.o6, .int .i64 p.o7] 35)
  have hsz : (w.alloc (.cells #[.int .i64 p.kind, .int .i64 p.client, .int .i64 p.epoch, .int .i64 p.seq, .int .i64 p.op, .int .i64 p.at_, .int .i64 p.n, .string p.data, .int .i64 p.old, .int .i64 p.new, .int .i64 p.ckind, .string p.path, .string p.path2, .int .i64 p.flags, .int .i64 p.cfd, .int .i64 p.coff, .int .i64 p.cn, .string p.cdata, .int .i64 p.ino, .int .i64 p.errno, .int .i64 p.rerrno, .int .i64 p.rfd, .string p.rdata, .slice A m c, .int .i64 p.ikind, .int .i64 p.ilinks, .int .i64 p.isize, .int .i64 p.wrote, .int .i64 p.nkind, .int .i64 p.nlinks, .int .i64 p.nsize, .int .i64 p.b0, .int .i64 p.b1, .int .i64 p.b2, .int .i64 p.b3, .int .i64 p.o0, .int .i64 p.o1, .int .i64 p.o2, .int .i64 p.o3, .int .i64 p.o4, .int .i64 p.o5, .int .i64 p.o6, .int .i64 p.o7] 35)).heap.size = w.heap.size + 1 := by simp
  have hy0 := Row.new (w.alloc (.cells #[.int .i64 p.kind, .int .i64 p.client, .int .i64 p.epoch, .int .i64 p.seq, .int .i64 p.op, .int .i64 p.at_, .int .i64 p.n, .string p.data, .int .i64 p.old, .int .i64 p.new, .int .i64 p.ckind, .string p.path, .string p.path2, .int .i64 p.flags, .int .i64 p.cfd, .int .i64 p.coff, .int .i64 p.cn, .string p.cdata, .int .i64 p.ino, .int .i64 p.errno, .int .i64 p.rerrno, .int .i64 p.rfd, .string p.rdata, .slice A m c, .int .i64 p.ikind, .int .i64 p.ilinks, .int .i64 p.isize, .int .i64 p.wrote, .int .i64 p.nkind, .int .i64 p.nlinks, .int .i64 p.nsize, .int .i64 p.b0, .int .i64 p.b1, .int .i64 p.b2, .int .i64 p.b3, .int .i64 p.o0, .int .i64 p.o1, .int .i64 p.o2, .int .i64 p.o3, .int .i64 p.o4, .int .i64 p.o5, .int .i64 p.o6, .int .i64 p.o7] 35)) 35 zP #[.int .i64 0, .int .i64 0, .int .i64 0, .int .i64 0, .int .i64 0, .int .i64 0, .int .i64 0, .string ⟨#[]⟩, .int .i64 0, .int .i64 0, .int .i64 0, .string ⟨#[]⟩, .string ⟨#[]⟩, .int .i64 0, .int .i64 0, .int .i64 0, .int .i64 0, .string ⟨#[]⟩, .int .i64 0, .int .i64 0, .int .i64 0, .int .i64 0, .string ⟨#[]⟩, .slice none 0 0, .int .i64 0, .int .i64 0, .int .i64 0, .int .i64 0, .int .i64 0, .int .i64 0, .int .i64 0, .int .i64 0, .int .i64 0, .int .i64 0, .int .i64 0, .int .i64 0, .int .i64 0, .int .i64 0, .int .i64 0, .int .i64 0, .int .i64 0, .int .i64 0, .int .i64 0] rfl
  have ga2 := (Grow.refl (w.alloc (.cells #[.int .i64 p.kind, .int .i64 p.client, .int .i64 p.epoch, .int .i64 p.seq, .int .i64 p.op, .int .i64 p.at_, .int .i64 p.n, .string p.data, .int .i64 p.old, .int .i64 p.new, .int .i64 p.ckind, .string p.path, .string p.path2, .int .i64 p.flags, .int .i64 p.cfd, .int .i64 p.coff, .int .i64 p.cn, .string p.cdata, .int .i64 p.ino, .int .i64 p.errno, .int .i64 p.rerrno, .int .i64 p.rfd, .string p.rdata, .slice A m c, .int .i64 p.ikind, .int .i64 p.ilinks, .int .i64 p.isize, .int .i64 p.wrote, .int .i64 p.nkind, .int .i64 p.nlinks, .int .i64 p.nsize, .int .i64 p.b0, .int .i64 p.b1, .int .i64 p.b2, .int .i64 p.b3, .int .i64 p.o0, .int .i64 p.o1, .int .i64 p.o2, .int .i64 p.o3, .int .i64 p.o4, .int .i64 p.o5, .int .i64 p.o6, .int .i64 p.o7] 35))).alloc (.cells #[.int .i64 0, .int .i64 0, .int .i64 0, .int .i64 0, .int .i64 0, .int .i64 0, .int .i64 0, .string ⟨#[]⟩, .int .i64 0, .int .i64 0, .int .i64 0, .string ⟨#[]⟩, .string ⟨#[]⟩, .int .i64 0, .int .i64 0, .int .i64 0, .int .i64 0, .string ⟨#[]⟩, .int .i64 0, .int .i64 0, .int .i64 0, .int .i64 0, .string ⟨#[]⟩, .slice none 0 0, .int .i64 0, .int .i64 0, .int .i64 0, .int .i64 0, .int .i64 0, .int .i64 0, .int .i64 0, .int .i64 0, .int .i64 0, .int .i64 0, .int .i64 0, .int .i64 0, .int .i64 0, .int .i64 0, .int .i64 0, .int .i64 0, .int .i64 0, .int .i64 0, .int .i64 0] 35)
  rw [hsz] at hy0
  obtain ⟨w1, hw1⟩ : ∃ z, z = w.alloc (.cells #[.int .i64 p.kind, .int .i64 p.client, .int .i64 p.epoch, .int .i64 p.seq, .int .i64 p.op, .int .i64 p.at_, .int .i64 p.n, .string p.data, .int .i64 p.old, .int .i64 p.new, .int .i64 p.ckind, .string p.path, .string p.path2, .int .i64 p.flags, .int .i64 p.cfd, .int .i64 p.coff, .int .i64 p.cn, .string p.cdata, .int .i64 p.ino, .int .i64 p.errno, .int .i64 p.rerrno, .int .i64 p.rfd, .string p.rdata, .slice A m c, .int .i64 p.ikind, .int .i64 p.ilinks, .int .i64 p.isize, .int .i64 p.wrote, .int .i64 p.nkind, .int .i64 p.nlinks, .int .i64 p.nsize, .int .i64 p.b0, .int .i64 p.b1, .int .i64 p.b2, .int .i64 p.b3, .int .i64 p.o0, .int .i64 p.o1, .int .i64 p.o2, .int .i64 p.o3, .int .i64 p.o4, .int .i64 p.o5, .int .i64 p.o6, .int .i64 p.o7] 35) := ⟨_, rfl⟩
  rw [← hw1] at hb ga hy0 ga2 ⊢
  obtain ⟨w2, hw2⟩ : ∃ z, z = w1.alloc (.cells #[.int .i64 0, .int .i64 0, .int .i64 0, .int .i64 0, .int .i64 0, .int .i64 0, .int .i64 0, .string ⟨#[]⟩, .int .i64 0, .int .i64 0, .int .i64 0, .string ⟨#[]⟩, .string ⟨#[]⟩, .int .i64 0, .int .i64 0, .int .i64 0, .int .i64 0, .string ⟨#[]⟩, .int .i64 0, .int .i64 0, .int .i64 0, .int .i64 0, .string ⟨#[]⟩, .slice none 0 0, .int .i64 0, .int .i64 0, .int .i64 0, .int .i64 0, .int .i64 0, .int .i64 0, .int .i64 0, .int .i64 0, .int .i64 0, .int .i64 0, .int .i64 0, .int .i64 0, .int .i64 0, .int .i64 0, .int .i64 0, .int .i64 0, .int .i64 0, .int .i64 0, .int .i64 0] 35) := ⟨_, rfl⟩
  rw [← hw2] at hy0 ga2 ⊢
  obtain ⟨x, hx⟩ : ∃ z, z = w.heap.size := ⟨_, rfl⟩
  rw [← hx] at hb hy0 ⊢
  obtain ⟨P0, hP0⟩ : ∃ z, z = Value.agg #[.int .i64 p.kind, .int .i64 p.client, .int .i64 p.epoch, .int .i64 p.seq, .int .i64 p.op, .int .i64 p.at_, .int .i64 p.n, .string p.data, .int .i64 p.old, .int .i64 p.new, .int .i64 p.ckind, .string p.path, .string p.path2, .int .i64 p.flags, .int .i64 p.cfd, .int .i64 p.coff, .int .i64 p.cn, .string p.cdata, .int .i64 p.ino, .int .i64 p.errno, .int .i64 p.rerrno, .int .i64 p.rfd, .string p.rdata, .slice A m c, .int .i64 p.ikind, .int .i64 p.ilinks, .int .i64 p.isize, .int .i64 p.wrote, .int .i64 p.nkind, .int .i64 p.nlinks, .int .i64 p.nsize, .int .i64 p.b0, .int .i64 p.b1, .int .i64 p.b2, .int .i64 p.b3, .int .i64 p.o0, .int .i64 p.o1, .int .i64 p.o2, .int .i64 p.o3, .int .i64 p.o4, .int .i64 p.o5, .int .i64 p.o6, .int .i64 p.o7] := ⟨_, rfl⟩
  rw [← hP0]
  have HX0 := Lib.hid (hb.keep ga2)
  have HY0 := Lib.hid hy0
  have HG2 := Lib.hid (ga.trans ga2)
  have HX := Lib.hid hx
  have HR2 := Lib.hid ((HR0.out.grow ga).grow ga2)
  have hlx := HX0.out.1.1
  have hly := HY0.out.1.1
  clear hw1 hw2 hb ga hy0 ga2 hx hP0 hsz
  have c7 := HX0.out.1.2 7 _ rfl
  have f7 := HX0.out.2 7 (by simp [PK.cells])
  go_upto_if 9 with (fail)
  go_cut [1] (fun v wx => v = .pointer (some ⟨x, 0, none⟩) ∧ Row wx x (({ p with data := cutS 150 p.data } : PK).cells (.slice A m c)) ∧ Turn (fun k => k = x) w2 wx)
  case first =>
    by_cases h : 150 < p.data.size
    · have z1 : decide (150 < p.data.size) = true := decide_eq_true h
      have z2 : decide ((150 : Int) < (p.data.size : Int)) = true := decide_eq_true (by omega)
      have HC := Lib.hid (cutS_yes h)
      have hset := HX0.out.set (j := 7) (v := .string (p.data.extract 0 150)) (by simp [PK.cells])
      have HS := Lib.hid hset
      have HTS := Lib.hid (Turn.setCell (F := fun k => k = x) w2 (p := ⟨x, 7, none⟩) rfl (.string (p.data.extract 0 150)))
      clear hset
      go_wp2_with fail
      go_meet
      refine ⟨rfl, ?_, HTS.out⟩
      rw [HC.out]
      exact HS.out
    · have z1 : decide (150 < p.data.size) = false := decide_eq_false h
      have z2 : decide ((150 : Int) < (p.data.size : Int)) = false := decide_eq_false (by omega)
      have HC := Lib.hid (cutS_no h)
      go_wp2_with fail
      go_meet
      refine ⟨rfl, ?_, Turn.refl _ _⟩
      rw [HC.out]
      exact HX0.out
  case rest =>
    obtain ⟨rfl, hx1, ht1⟩ := hcut
    obtain ⟨w3, hw⟩ : ∃ z, z = wc := ⟨_, rfl⟩
    rw [← hw] at hx1 ht1 ⊢
    have HX1 := Lib.hid hx1
    have HY1 := Lib.hid (HY0.out.turnW ht1 (by omega))
    have HR3 := Lib.hid (HR2.out.turnW ht1 (fun hn q hq => HR0.out.ne (Nat.le_of_eq HX.out.symm) hn q hq))
    have HG3 := Lib.hid (show Grow w w3 from HG2.out.low (ht1.low (B := w.heap.size) (fun i e => by have := HX.out; have e' : i = x := e; omega) HG2.out.size))
    replace hlx := hx1.1.1
    replace hly := HY1.out.1.1
    clear hw hx1 ht1 HX0 HY0 HR2 HG2 c7 f7
    have c11 := HX1.out.1.2 11 _ rfl
    have f11 := HX1.out.2 11 (by simp [PK.cells])
    go_upto_if 18 with (fail)
    go_cut [1] (fun v wx => v = .pointer (some ⟨x, 0, none⟩) ∧ Row wx x (({ p with data := cutS 150 p.data, path := cutS 150 p.path } : PK).cells (.slice A m c)) ∧ Turn (fun k => k = x) w3 wx)
    case first =>
      by_cases h : 150 < p.path.size
      · have z1 : decide (150 < p.path.size) = true := decide_eq_true h
        have z2 : decide ((150 : Int) < (p.path.size : Int)) = true := decide_eq_true (by omega)
        have HC := Lib.hid (cutS_yes h)
        have hset := HX1.out.set (j := 11) (v := .string (p.path.extract 0 150)) (by simp [PK.cells])
        have HS := Lib.hid hset
        have HTS := Lib.hid (Turn.setCell (F := fun k => k = x) w3 (p := ⟨x, 11, none⟩) rfl (.string (p.path.extract 0 150)))
        clear hset
        go_wp2_with fail
        go_meet
        refine ⟨rfl, ?_, HTS.out⟩
        rw [HC.out]
        exact HS.out
      · have z1 : decide (150 < p.path.size) = false := decide_eq_false h
        have z2 : decide ((150 : Int) < (p.path.size : Int)) = false := decide_eq_false (by omega)
        have HC := Lib.hid (cutS_no h)
        go_wp2_with fail
        go_meet
        refine ⟨rfl, ?_, Turn.refl _ _⟩
        rw [HC.out]
        exact HX1.out
    case rest =>
      obtain ⟨rfl, hx2, ht2⟩ := hcut
      obtain ⟨w4, hw⟩ : ∃ z, z = wc := ⟨_, rfl⟩
      rw [← hw] at hx2 ht2 ⊢
      have HX2 := Lib.hid hx2
      have HY2 := Lib.hid (HY1.out.turnW ht2 (by omega))
      have HR4 := Lib.hid (HR3.out.turnW ht2 (fun hn q hq => HR0.out.ne (Nat.le_of_eq HX.out.symm) hn q hq))
      have HG4 := Lib.hid (show Grow w w4 from HG3.out.low (ht2.low (B := w.heap.size) (fun i e => by have := HX.out; have e' : i = x := e; omega) HG3.out.size))
      replace hlx := hx2.1.1
      replace hly := HY2.out.1.1
      clear hw hx2 ht2 HX1 HY1 HR3 HG3 c11 f11
      have c12 := HX2.out.1.2 12 _ rfl
      have f12 := HX2.out.2 12 (by simp [PK.cells])
      go_upto_if 29 with (fail)
      go_cut [1] (fun v wx => v = .pointer (some ⟨x, 0, none⟩) ∧ Row wx x (({ p with data := cutS 150 p.data, path := cutS 150 p.path, path2 := cutS 150 p.path2 } : PK).cells (.slice A m c)) ∧ Turn (fun k => k = x) w4 wx)
      case first =>
        by_cases h : 150 < p.path2.size
        · have z1 : decide (150 < p.path2.size) = true := decide_eq_true h
          have z2 : decide ((150 : Int) < (p.path2.size : Int)) = true := decide_eq_true (by omega)
          have HC := Lib.hid (cutS_yes h)
          have hset := HX2.out.set (j := 12) (v := .string (p.path2.extract 0 150)) (by simp [PK.cells])
          have HS := Lib.hid hset
          have HTS := Lib.hid (Turn.setCell (F := fun k => k = x) w4 (p := ⟨x, 12, none⟩) rfl (.string (p.path2.extract 0 150)))
          clear hset
          go_wp2_with fail
          go_meet
          refine ⟨rfl, ?_, HTS.out⟩
          rw [HC.out]
          exact HS.out
        · have z1 : decide (150 < p.path2.size) = false := decide_eq_false h
          have z2 : decide ((150 : Int) < (p.path2.size : Int)) = false := decide_eq_false (by omega)
          have HC := Lib.hid (cutS_no h)
          go_wp2_with fail
          go_meet
          refine ⟨rfl, ?_, Turn.refl _ _⟩
          rw [HC.out]
          exact HX2.out
      case rest =>
        obtain ⟨rfl, hx3, ht3⟩ := hcut
        obtain ⟨w5, hw⟩ : ∃ z, z = wc := ⟨_, rfl⟩
        rw [← hw] at hx3 ht3 ⊢
        have HX3 := Lib.hid hx3
        have HY3 := Lib.hid (HY2.out.turnW ht3 (by omega))
        have HR5 := Lib.hid (HR4.out.turnW ht3 (fun hn q hq => HR0.out.ne (Nat.le_of_eq HX.out.symm) hn q hq))
        have HG5 := Lib.hid (show Grow w w5 from HG4.out.low (ht3.low (B := w.heap.size) (fun i e => by have := HX.out; have e' : i = x := e; omega) HG4.out.size))
        replace hlx := hx3.1.1
        replace hly := HY3.out.1.1
        clear hw hx3 ht3 HX2 HY2 HR4 HG4 c12 f12
        have c23 := HX3.out.1.2 23 _ rfl
        go_wp2_with fail
        go_loopw [3, 4] (fun l i wr => FwInv w5 wr l i p m) (fun l i _ => 20 - (intOf i).toNat)
        case atStart => exact ⟨0, _, rfl, rfl, Nat.zero_le _, by decide, World.ownsRow_nil _ _ _ _, Turn.refl _ _⟩
        case round =>
          obtain ⟨k, nvk, rfl, rfl, hkm, hk20, hos, ht⟩ := hrel
          have HOS := Lib.hid hos
          have HT := Lib.hid ht
          have HLN := Lib.hid (show ((p.names.take k).map (cutS 20)).length = k by rw [List.length_map, List.length_take, HR5.out.1]; omega)
          have c23r := Turn.cellW ht c23 (show ¬ w5.heap.size ≤ x by omega)
          have hZ := ht.size
          clear hos ht
          by_cases hlt : k < m
          · have z1 : decide (k < m) = true := decide_eq_true hlt
            have z2 : decide ((k : Int) < (m : Int)) = true := decide_eq_true (by omega)
            by_cases h20 : k < 20
            · have z3 : decide (k < 20) = true := decide_eq_true h20
              have z4 : decide ((k : Int) < 20) = true := decide_eq_true (by omega)
              obtain ⟨b, o1, r, hrk, rfl, hbb, cr⟩ := HR5.out.at_ hlt
              have cr' := Turn.cellW HT.out cr (show ¬ w5.heap.size ≤ b by omega)
              have HRK := Lib.hid hrk
              clear hrk cr c23
              go_upto_if 56 with (fail)
              go_cut [5] (fun v wx => v = .string (cutS 20 r) ∧ wr = wx)
              case first =>
                by_cases h : 20 < r.size
                · have y1 : decide (20 < r.size) = true := decide_eq_true h
                  have y2 : decide ((20 : Int) < (r.size : Int)) = true := decide_eq_true (by omega)
                  have HC := Lib.hid (cutS_yes h)
                  go_wp2_with fail
                  go_meet
                  exact ⟨by rw [HC.out], rfl⟩
                · have y1 : decide (20 < r.size) = false := decide_eq_false h
                  have y2 : decide ((20 : Int) < (r.size : Int)) = false := decide_eq_false (by omega)
                  have HC := Lib.hid (cutS_no h)
                  go_wp2_with fail
                  go_meet
                  exact ⟨by rw [HC.out], rfl⟩
              case rest =>
                obtain ⟨rfl, rfl⟩ := hcut
                obtain ⟨rc, hrc⟩ : ∃ z, z = cutS 20 r := ⟨_, rfl⟩
                rw [← hrc]
                have HRC := Lib.hid hrc
                clear hrc
                go_wp2_with (at_builtin; go_loud (refine wpList_appW rfl (.tmp 59) (.tmp 61) rfl w5.heap.size nvk _ (by first | rfl | simp) rc _ (some ⟨wr.heap.size, 0, none⟩) (by first | rfl | simp) (Rd.litS (w := wr) rc (Grow.refl _)) (HOS.out.keep ((Grow.refl _).alloc _)) (by rw [HLN.out]; omega) (by simp; omega) ?_; intro v8 w8 q1 q2; have HQ1 := Lib.hid q1; have HQ2 := Lib.hid q2; clear q1 q2))
                have X : FwInv w5 w8 v8 (.int .i64 ((k : Int) + 1)) p m := ⟨k + 1, v8, rfl, by simp, hlt, by omega, by
                  have := HQ1.out
                  rw [take_snoc HRK.out, List.map_append, List.map_cons, List.map_nil, ← HRC.out]
                  exact this, (HT.out.andGrow ((Grow.refl _).alloc _)).and ((Turn.grown HQ2.out (fun _ h => h)).mono fun i e => (World.ownsRow.lt HOS.out i e).1)⟩
                have HX9 := Lib.hid X
                clear X
                go_wp2_with fail
                go_roundw
                have e5 : wrap64 ((k : Int) + 1) = (k : Int) + 1 := IntWalk.wrap64_in _ (by omega)
                case rel => (try rw [e5]); first | exact HX9.out | ((repeat apply Exists.intro); exact HX9.out)
                case measure => (have e5 : wrap64 ((k : Int) + 1) = (k : Int) + 1 := IntWalk.wrap64_in _ (by omega)); first | exact measV h20 | (rw [e5]; exact measV h20)
            · have z3 : decide (k < 20) = false := decide_eq_false h20
              have z4 : decide ((k : Int) < 20) = false := decide_eq_false (by omega)
              have HEN := Lib.hid (show (p.names.take k).map (cutS 20) = (p.names.take 20).map (cutS 20) by rw [show k = 20 by omega])
              obtain ⟨An, cn, hnv, -⟩ := own_form HOS.out
              obtain ⟨nl, hnl⟩ : ∃ z, z = ((p.names.take k).map (cutS 20)).length := ⟨_, rfl⟩
              rw [← hnl] at hnv
              subst hnv
              clear hnl
              have HXR := Lib.hid (HX3.out.turnW HT.out (show ¬ w5.heap.size ≤ x by omega))
              have HYR := Lib.hid (HY3.out.turnW HT.out (show ¬ w5.heap.size ≤ x + 1 by omega))
              have HGR := Lib.hid (show Grow w wr from HG5.out.low (HT.out.low (B := w.heap.size) (fun i e => Nat.le_trans HG5.out.size e) HG5.out.size))
              have f23 := HXR.out.2 23 (by simp [PK.cells])
              have hlxr := HXR.out.1.1
              have HSET := Lib.hid (show Row (wr.setCell ⟨x, 23, none⟩ (.slice An nl cn)) x ((fewP p).cells (.slice An nl cn)) by
                have := HXR.out.set (j := 23) (v := (.slice An nl cn)) (by simp [PK.cells])
                exact this)
              have HTS := Lib.hid (Turn.setCell (F := fun k => k = x) wr (p := ⟨x, 23, none⟩) rfl (.slice An nl cn))
              clear c23
              go_upto_region 16 with (fail)
              obtain ⟨w7, hw7⟩ : ∃ z, z = wr.setCell ⟨x, 23, none⟩ (.slice An nl cn) := ⟨_, rfl⟩
              rw [← hw7] at HSET HTS ⊢
              have HY7 := Lib.hid (HYR.out.turnW HTS.out (by omega))
              have HOS7 := Lib.hid (row_turnW HOS.out HTS.out (fun j e q => by have := (World.ownsRow.lt HOS.out j e).1; have q' : j = x := q; omega))
              clear hw7 c23r f23
              refine wp_region_list ?_
              refine wpList_loadRow rfl 35 (.tmp 1) rfl (some 66) rfl x rfl ((fewP p).cells (.slice An nl cn)) _ HSET.out.1 Try.underlying35 rfl pk_size ?_
              refine wpList_storeRow rfl 35 (.tmp 2) (.tmp 66) rfl rfl (x + 1) rfl ((fewP p).cells (.slice An nl cn)) zP rfl HY7.out rfl pk_size (PK.one _ HOS.out.one) ?_
              intro w8 r8 t8 z8
              have HR8 := Lib.hid r8
              have HT8 := Lib.hid t8
              clear r8 t8 z8
              go_wp2_with fail
              refine bodyPost_ret (few_ret rfl HR8.out.1 rfl) rfl ⟨(.slice An nl cn), rfl, ?_, ?_⟩
              · exact HGR.out.low ((HTS.out.and' HT8.out).low (B := w.heap.size) (fun i e => by have := HX.out; rcases e with e | e <;> omega) HGR.out.size)
              · show OS w8 w.heap.size (.slice An nl cn) ((p.names.take 20).map (cutS 20))
                rw [← HEN.out]
                exact World.ownsRow.mono (row_turnW HOS7.out HT8.out (fun j e q => by have := (World.ownsRow.lt HOS7.out j e).1; have q' : j = x + 1 := q; omega)) HG5.out.size
          · have z1 : decide (k < m) = false := decide_eq_false hlt
            have z2 : decide ((k : Int) < (m : Int)) = false := decide_eq_false (by omega)
            have HEN := Lib.hid (show (p.names.take k).map (cutS 20) = (p.names.take 20).map (cutS 20) by rw [List.take_of_length_le (by rw [HR5.out.1]; omega), List.take_of_length_le (by rw [HR5.out.1]; omega)])
            obtain ⟨An, cn, hnv, -⟩ := own_form HOS.out
            obtain ⟨nl, hnl⟩ : ∃ z, z = ((p.names.take k).map (cutS 20)).length := ⟨_, rfl⟩
            rw [← hnl] at hnv
            subst hnv
            clear hnl
            have HXR := Lib.hid (HX3.out.turnW HT.out (show ¬ w5.heap.size ≤ x by omega))
            have HYR := Lib.hid (HY3.out.turnW HT.out (show ¬ w5.heap.size ≤ x + 1 by omega))
            have HGR := Lib.hid (show Grow w wr from HG5.out.low (HT.out.low (B := w.heap.size) (fun i e => Nat.le_trans HG5.out.size e) HG5.out.size))
            have f23 := HXR.out.2 23 (by simp [PK.cells])
            have hlxr := HXR.out.1.1
            have HSET := Lib.hid (show Row (wr.setCell ⟨x, 23, none⟩ (.slice An nl cn)) x ((fewP p).cells (.slice An nl cn)) by
              have := HXR.out.set (j := 23) (v := (.slice An nl cn)) (by simp [PK.cells])
              exact this)
            have HTS := Lib.hid (Turn.setCell (F := fun k => k = x) wr (p := ⟨x, 23, none⟩) rfl (.slice An nl cn))
            clear c23
            go_upto_region 16 with (fail)
            obtain ⟨w7, hw7⟩ : ∃ z, z = wr.setCell ⟨x, 23, none⟩ (.slice An nl cn) := ⟨_, rfl⟩
            rw [← hw7] at HSET HTS ⊢
            have HY7 := Lib.hid (HYR.out.turnW HTS.out (by omega))
            have HOS7 := Lib.hid (row_turnW HOS.out HTS.out (fun j e q => by have := (World.ownsRow.lt HOS.out j e).1; have q' : j = x := q; omega))
            clear hw7 c23r f23
            refine wp_region_list ?_
            refine wpList_loadRow rfl 35 (.tmp 1) rfl (some 66) rfl x rfl ((fewP p).cells (.slice An nl cn)) _ HSET.out.1 Try.underlying35 rfl pk_size ?_
            refine wpList_storeRow rfl 35 (.tmp 2) (.tmp 66) rfl rfl (x + 1) rfl ((fewP p).cells (.slice An nl cn)) zP rfl HY7.out rfl pk_size (PK.one _ HOS.out.one) ?_
            intro w8 r8 t8 z8
            have HR8 := Lib.hid r8
            have HT8 := Lib.hid t8
            clear r8 t8 z8
            go_wp2_with fail
            refine bodyPost_ret (few_ret rfl HR8.out.1 rfl) rfl ⟨(.slice An nl cn), rfl, ?_, ?_⟩
            · exact HGR.out.low ((HTS.out.and' HT8.out).low (B := w.heap.size) (fun i e => by have := HX.out; rcases e with e | e <;> omega) HGR.out.size)
            · show OS w8 w.heap.size (.slice An nl cn) ((p.names.take 20).map (cutS 20))
              rw [← HEN.out]
              exact World.ownsRow.mono (row_turnW HOS7.out HT8.out (fun j e q => by have := (World.ownsRow.lt HOS7.out j e).1; have q' : j = x + 1 := q; omega)) HG5.out.size
end Go.Proofs.Ytgjcpchlijpjmaa
