/- Arguments that are slices of deeds (commonslaw09), of ints. commonslaw09.does: Store, Commit. commonslaw09.does: Drop, Crash. commonslaw09.does: a direct Store. No statement of the seat is proved here. -/
import Derived.Test.YtlinlmimakealaaZ01
import Derived.Test.YtlinlmimakealaaZ20
import Derived.DataReads
import Derived.Deep.DeepCutAuto
import Derived.Deep.RegionHeld3
namespace Go.Proofs.Ytlinlmimakealaa
open Go.RowKit
open Go.ChangeShapes Go.WideShapes Go.ChangeAt

/-- A deed as it came: its numbers, its bytes, its picks. -/
structure Dd where
  k : Int
  a : Int
  n : Int
  B : Option Addr
  bs : List UInt8
  c : Nat
  Q : Option Addr
  pk : List Int
  d : Nat
def Dd.cells (e : Dd) : List Value := [.int .i64 e.k, .int .i64 e.a, .int .i64 e.n, .slice e.B e.bs.length e.c, .slice e.Q e.pk.length e.d]
def Dd.ok (e : Dd) (w : World) : Prop := (-9223372036854775808 ≤ e.a ∧ e.a ≤ 9223372036854775807) ∧ (-9223372036854775808 ≤ e.n ∧ e.n ≤ 9223372036854775807) ∧ RB w w.heap.size e.B e.bs ∧ e.bs.length ≤ e.c ∧ RI w e.Q e.pk.length e.pk ∧ e.pk.length ≤ e.d ∧ ∀ p ∈ e.pk, -9223372036854775808 ≤ p ∧ p ≤ 9223372036854775807

set_option maxRecDepth 8000 in
theorem trod_ints {H : Type} {enc : TypeId × Value → H} {W : World} {base fuel : Nat} {cs : List Value} {x : DataW H × List MemPlace} {spare : Nat → Bool} {held : Bool}
    (hf : DataW.trod enc Try.prog W base spare held fuel 41 cs = some x) (hs : ∀ b, spare b = true) :
    ∃ (a : Option Addr) (pk : List Int) (c : Nat), cs = [.slice a pk.length c] ∧ RI W a pk.length pk ∧ pk.length ≤ c ∧ ∀ p ∈ pk, -9223372036854775808 ≤ p ∧ p ≤ 9223372036854775807 := by
  rcases open_ints Try.underlying41 Try.underlying3 (by kernel_rfl) hf with ⟨hcs, _⟩ | ⟨x, l, c, zs, hcs, _, hl, hm, hz, _, hcell, hwz⟩
  · exact ⟨none, [], 0, hcs, ⟨rfl, rfl, fun h => by simp at h⟩, Nat.le_refl _, fun p hp => by simp at hp⟩
  · have hzc : zs.length = c := by simpa [hs] using hz
    have hlen : (zs.take l).length = l := by simp; omega
    refine ⟨some x, zs.take l, c, by rw [hlen, hcs], ⟨rfl, by simp [ics], fun h0 => ?_⟩, by omega, fun p hp => i64_bounds (hwz p (List.mem_of_mem_take hp))⟩
    rw [hlen] at h0
    obtain ⟨b, off, spot⟩ := x
    have hc0 := hcell 0 (by omega)
    have hspot : spot = none := by simpa [Addr.add] using World.cell?_spot hc0
    subst hspot
    have hlt := World.block_lt_of_cell? W _ hc0
    refine ⟨b, off, rfl, by simpa [Addr.add] using hlt, fun j u hu => ?_⟩
    rw [ics, List.getElem?_map] at hu
    by_cases hj : j < l
    · rw [List.getElem?_take, if_pos hj, List.getElem?_eq_getElem (by omega)] at hu
      simp only [Option.map_some, Option.some.injEq] at hu
      have hc := hcell j (by omega)
      rw [Addr.add_lit, List.getD_eq_getElem?_getD, List.getElem?_eq_getElem (by omega)] at hc
      rw [hc, ← hu]
      rfl
    · rw [List.getElem?_eq_none (by rw [List.length_take]; omega)] at hu
      cases hu

set_option maxRecDepth 8000 in
theorem trod_deed {H : Type} {enc : TypeId × Value → H} {W : World} {base fuel : Nat} {cs : List Value} {x : DataW H × List MemPlace} {spare : Nat → Bool} {held : Bool}
    (hf : DataW.trod enc Try.prog W base spare held fuel 54 cs = some x) (hs : ∀ b, spare b = true) : ∃ r : Dd, cs = r.cells ∧ r.ok W := by
  obtain ⟨xs, n, _, -, hl, hlen, hg⟩ := DataW.trod_struct Try.underlying54 hf
  have hC : Try.prog.cellsOf 54 = 5 := by kernel_rfl
  have e3 : Try.prog.cellsOf 3 = 1 := by kernel_rfl
  have e4 : Try.prog.cellsOf 22 = 1 := by kernel_rfl
  have e9 : Try.prog.cellsOf 41 = 1 := by kernel_rfl
  match cs, hl.trans hC with
  | [c0, c1, c2, c3, c4], _ =>
    match xs, hlen with
    | [y0, y1, y2, y3, y4], _ =>
      have g0 : DataW.trod enc Try.prog W base spare held n 3 [c0] = some y0 := by simpa [e3] using hg 0 _ rfl
      have g1 : DataW.trod enc Try.prog W base spare held n 3 [c1] = some y1 := by simpa [e3] using hg 1 _ rfl
      have g2 : DataW.trod enc Try.prog W base spare held n 3 [c2] = some y2 := by simpa [e3] using hg 2 _ rfl
      have g3 : DataW.trod enc Try.prog W base spare held n 22 [c3] = some y3 := by simpa [e4] using hg 3 _ rfl
      have g4 : DataW.trod enc Try.prog W base spare held n 41 [c4] = some y4 := by simpa [e9] using hg 4 _ rfl
      obtain ⟨z0, h0, -, -⟩ := DataW.trod_int Try.underlying3 g0
      obtain ⟨z1, h1, -, b1⟩ := DataW.trod_int Try.underlying3 g1
      obtain ⟨z2, h2, -, b2⟩ := DataW.trod_int Try.underlying3 g2
      obtain ⟨B, bs, c, h3, r1, r2, -, -⟩ := trod_bytes g3 hs
      obtain ⟨Q, pk, d, h4, r3, r4, r5⟩ := trod_ints g4 hs
      simp only [List.cons.injEq, and_true] at h0 h1 h2 h3 h4
      subst h0 h1 h2 h3 h4
      exact ⟨⟨z0, z1, z2, B, bs, c, Q, pk, d⟩, rfl, i64_bounds b1, i64_bounds b2, r1, r2, r3, r4, r5⟩

/-- A slice of deeds that is read. -/
def RD (w : World) (A : Option Addr) (n : Nat) (L : List Dd) : Prop := L.length = n ∧ (∀ e ∈ L, e.ok w) ∧ (0 < n → ∃ b o, A = some ⟨b, o, none⟩ ∧ b < w.heap.size ∧ ∀ i (hi : i < L.length) j, j < 5 → w.cell? ⟨b, o + i * 5 + j, none⟩ = (L[i].cells)[j]?)

set_option maxRecDepth 8000 in
theorem open_deeds {H : Type} {enc : TypeId × Value → H} {W : World} {b0 base : Nat} {v : Value} {d : DataW H} {p : List MemPlace} {spare : Nat → Bool} {held : Bool} {T : TypeId}
    (hT : Try.prog.underlying T = some (.slice 54)) (hv : Value.okWide Try.prog W .any b0 T v) (h : DataW.Trod enc Try.prog W base spare held T v d p) (hs : ∀ b, spare b = true) :
    ∃ (a : Option Addr) (L : List Dd) (c : Nat), v = .slice a L.length c ∧ RD W a L.length L ∧ L.length ≤ c ∧ c ≤ maxLen := by
  have hC : Try.prog.cellsOf 54 = 5 := by kernel_rfl
  obtain ⟨a, len, cap, rfl⟩ := okWide_slice hT hv
  obtain ⟨fuel, hf⟩ := h
  rcases Deep.open_slice hT hf with ⟨hcs, _⟩ | ⟨x, l, c, m, n, D, Pl, hcs, _, hl, hm, hmm, _, hx⟩
  · simp [Value.cells] at hcs
    obtain ⟨rfl, rfl, rfl⟩ := hcs
    exact ⟨none, [], 0, rfl, ⟨rfl, fun e he => by simp at he, fun h0 => by simp at h0⟩, Nat.le_refl _, by unfold maxLen; omega⟩
  · simp [Value.cells] at hcs
    obtain ⟨rfl, rfl, rfl⟩ := hcs
    have hmc : m = cap := by rw [hmm, hs]; rfl
    have hel : ∀ i, i < len → ∃ r : Dd, r.ok W ∧ ∀ j, j < 5 → W.cell? ((x.add (i * 5)).add j) = (r.cells)[j]? := by
      intro i hi
      obtain ⟨cs', h1, ht⟩ := hx i (by omega)
      rw [hC] at h1
      obtain ⟨r, rfl, hok⟩ := trod_deed ht hs
      exact ⟨r, hok, (World.cells?_some h1).2.2⟩
    obtain ⟨L, hL, hp⟩ := choose_list hel
    refine ⟨some x, L, cap, by rw [hL], ⟨rfl, fun e he => ?_, fun h0 => ?_⟩, by omega, hm⟩
    · obtain ⟨i, hi, rfl⟩ := List.getElem_of_mem he
      exact (hp i hi).1
    · have hc0 := (hp 0 h0).2 0 (by omega)
      obtain ⟨b, off, spot⟩ := x
      have hspot : spot = none := by simpa [Addr.add] using World.cell?_spot hc0
      subst hspot
      have hlt := World.block_lt_of_cell? W _ hc0
      refine ⟨b, off, rfl, by simpa [Addr.add] using hlt, fun i hi j hj => ?_⟩
      have := (hp i hi).2 j hj
      rwa [Addr.add_lit, Addr.add_lit] at this
set_option maxRecDepth 8000 in
theorem open_picksW {H : Type} {enc : TypeId × Value → H} {W : World} {b0 base : Nat} {v : Value} {d : DataW H} {p : List MemPlace} {spare : Nat → Bool} {held : Bool}
    (hv : Value.okWide Try.prog W .any b0 41 v) (h : DataW.Trod enc Try.prog W base spare held 41 v d p) (hs : ∀ b, spare b = true) :
    ∃ (a : Option Addr) (pk : List Int) (c : Nat), v = .slice a pk.length c ∧ RI W a pk.length pk ∧ pk.length ≤ c ∧ ∀ p ∈ pk, -9223372036854775808 ≤ p ∧ p ≤ 9223372036854775807 := by
  obtain ⟨a, len, cap, rfl⟩ := okWide_slice Try.underlying41 hv
  obtain ⟨fuel, hf⟩ := h
  obtain ⟨a', pk, c, hcs, h1, h2, h3⟩ := trod_ints hf hs
  simp [Value.cells] at hcs
  obtain ⟨rfl, rfl, rfl⟩ := hcs
  exact ⟨_, pk, _, rfl, h1, h2, h3⟩

theorem RD.at_ {w : World} {A : Option Addr} {n : Nat} {L : List Dd} (h : RD w A n L) {i : Nat} (hi : i < n) : ∃ (b o : Nat) (e : Dd), A = some ⟨b, o, none⟩ ∧ b < w.heap.size ∧ e.ok w ∧ w.cell? ⟨b, o + i * 5, none⟩ = some (.int .i64 e.k) ∧ w.cell? ⟨b, o + i * 5 + 1, none⟩ = some (.int .i64 e.a) ∧ w.cell? ⟨b, o + i * 5 + 2, none⟩ = some (.int .i64 e.n) ∧ w.cell? ⟨b, o + i * 5 + 3, none⟩ = some (.slice e.B e.bs.length e.c) ∧ w.cell? ⟨b, o + i * 5 + 4, none⟩ = some (.slice e.Q e.pk.length e.d) := by
  obtain ⟨h1, h2, h3⟩ := h
  obtain ⟨b, o, rfl, hb, hc⟩ := h3 (by omega)
  have hi' : i < L.length := by omega
  exact ⟨b, o, L[i], rfl, hb, h2 _ (List.getElem_mem _), hc i hi' 0 (by omega), hc i hi' 1 (by omega), hc i hi' 2 (by omega), hc i hi' 3 (by omega), hc i hi' 4 (by omega)⟩
theorem ri_low {w : World} {A : Option Addr} {n : Nat} {pk : List Int} (h : RI w A n pk) : 0 < n → ∀ p, A = some p → p.block < w.heap.size := by
  intro h0 p hp
  obtain ⟨b, o, q, hb, -⟩ := h.2.2 h0
  rw [q] at hp
  injection hp with hp
  subst hp
  exact hb
/-- A deed that came, as 'does' wants it: what lies below 'base' may not turn. -/
theorem Dd.ok.da {W w : World} {e : Dd} {P : Nat → Prop} (h : e.ok W) (g : Grow W w) (hP : ∀ k, P k → W.heap.size ≤ k) : DA9 w P e.n e.B e.bs.length e.c e.bs e.Q e.pk.length e.d e.pk := by
  obtain ⟨h1, h2, h3, h4, h5, h6, h7⟩ := h
  refine ⟨h2, (RB.below h3 g).more g.size, rfl, h4, h5.keep g, h6, h7, fun h0 p hp q => ?_, fun h0 p hp q => ?_⟩
  · obtain ⟨b, o, e, hb, -⟩ := h3.2 (by omega)
    rw [e] at hp
    injection hp with hp
    subst hp
    have := hP b q
    omega
  · have := ri_low h5 h0 p hp
    have := hP _ q
    omega
end Go.Proofs.Ytlinlmimakealaa

namespace Go.Proofs.Ytlinlmimakealaa
open Go.RowKit

set_option maxHeartbeats 8000000 in
set_option maxRecDepth 8000 in
theorem does9_0 {w : World} {base pb l t dl d : Nat} {x y : MB} {s : MS} {L : List PT} {v v' : Value} (h : PY w base pb l t dl d x y s L v v') (hb : base ≤ w.heap.size) {m c q dq : Nat} {B Q : Option Addr} {a n : Int} {bs : List UInt8} {pk : List Int} (hd : DA9 w (PF t d x y v v') n B m c bs Q q dq pk) :
    Calls Try.prog 24 #[.pointer (some ⟨pb, 0, none⟩), .agg #[.int .i64 0, .int .i64 a, .int .i64 n, .slice B m c, .slice Q q dq]] w fun e w' => e = .returned (.bool true) ∧ Done9 w w' base pb l t dl d x.p y s (stL L a (bs.take (min m 260))) (PF t d x y v v') := by
  have H := Lib.hid h
  have HC := Lib.hid hd.cut
  have HNB := Lib.hid hd.nb
  have hcap := hd.cap
  have hpcap := hd.pcap
  obtain ⟨b0, b1, b2, b3, b4⟩ := h.blk.c5
  clear h hd
  obtain ⟨m', hm'⟩ : ∃ m', m' = min m 260 := ⟨_, rfl⟩
  obtain ⟨q', hq'⟩ : ∃ q', q' = min q 200 := ⟨_, rfl⟩
  rw [← hm', ← hq'] at HC
  try rw [← hm']
  try rw [← hq']
  obtain ⟨bs', hbs'⟩ : ∃ z, z = bs.take m' := ⟨_, rfl⟩
  obtain ⟨pk', hpk'⟩ : ∃ z, z = pk.take q' := ⟨_, rfl⟩
  rw [← hbs', ← hpk'] at HC
  try rw [← hbs']
  try rw [← hpk']
  have HM := Lib.hid hm'
  have HQ := Lib.hid hq'
  clear hm' hq' hbs' hpk'
  go_enter Try.func24, Try.ntmps24
  go_upto_if 13 with fail
  go_cut [3] (fun v wx => v = .pointer (some ⟨w.heap.size, 0, none⟩) ∧ wx = w.alloc (.cells #[.int .i64 0, .int .i64 a, .int .i64 n, .slice B m' c, .slice Q q dq] 54))
  case first =>
    by_cases h60 : 260 < m
    · have z1 : decide (260 < m) = true := decide_eq_true h60
      have z2 : decide ((260 : Int) < (m : Int)) = true := decide_eq_true (by omega)
      have i1 : 260 ≤ c := by omega
      have HE := Lib.hid (show 260 = m' by have := HM.out; omega)
      go_wp2_with fail
      all_goals first | (exfalso; omega) | (go_meet; exact ⟨rfl, by rw [← HE.out]⟩)
    · have z1 : decide (260 < m) = false := decide_eq_false h60
      have z2 : decide ((260 : Int) < (m : Int)) = false := decide_eq_false (by omega)
      have HE := Lib.hid (show m = m' by have := HM.out; omega)
      go_wp2_with fail
      all_goals first | (exfalso; omega) | (go_meet; exact ⟨rfl, by rw [← HE.out]⟩)
  case rest =>
    obtain ⟨rfl, hwc⟩ := hcut
    subst hwc
    go_upto_if 21 with fail
    go_cut [3] (fun v wx => v = .pointer (some ⟨w.heap.size, 0, none⟩) ∧ wx = w.alloc (.cells #[.int .i64 0, .int .i64 a, .int .i64 n, .slice B m' c, .slice Q q' dq] 54))
    case first =>
      by_cases h60 : 200 < q
      · have z1 : decide (200 < q) = true := decide_eq_true h60
        have z2 : decide ((200 : Int) < (q : Int)) = true := decide_eq_true (by omega)
        have i1 : 200 ≤ dq := by omega
        have HE := Lib.hid (show 200 = q' by have := HQ.out; omega)
        go_wp2_with fail
        all_goals first | (exfalso; omega) | (go_meet; exact ⟨rfl, by rw [← HE.out]⟩)
      · have z1 : decide (200 < q) = false := decide_eq_false h60
        have z2 : decide ((200 : Int) < (q : Int)) = false := decide_eq_false (by omega)
        have HE := Lib.hid (show q = q' by have := HQ.out; omega)
        go_wp2_with fail
        all_goals first | (exfalso; omega) | (go_meet; exact ⟨rfl, by rw [← HE.out]⟩)
    case rest =>
      obtain ⟨rfl, hwc⟩ := hcut
      obtain ⟨w1, hw1⟩ : ∃ w1, w1 = w.alloc (.cells #[.int .i64 0, .int .i64 a, .int .i64 n, .slice B m' c, .slice Q q' dq] 54) := ⟨_, rfl⟩
      have g1 : Grow w w1 := by rw [hw1]; exact (Grow.refl w).alloc _
      have NB := Row.new w 54 [.int .i64 0, .int .i64 a, .int .i64 n, .slice B m' c, .slice Q q' dq] _ rfl
      rw [← hw1] at hwc NB
      subst hwc
      obtain ⟨g, hg⟩ : ∃ g, g = w.heap.size := ⟨_, rfl⟩
      rw [← hg] at NB ⊢
      obtain ⟨d0, d1, d2, d3, d4⟩ := NB.1.c5
      have hgx : ¬ TF t x v g := fun q => by have := H.out.tx.tfl g q; omega
      have hgy : ¬ TF d y v' g := fun q => by have := H.out.rx.tfl g q; omega
      have H1 := Lib.hid (H.out.keep g1)
      have D1 := Lib.hid (HC.out.keep g1)
      have G1 := Lib.hid g1
      replace b0 := g1.cell b0
      replace b1 := g1.cell b1
      replace b2 := g1.cell b2
      replace b3 := g1.cell b3
      replace b4 := g1.cell b4
      have hb1 : base ≤ wc.heap.size := Nat.le_trans hb g1.size
      have HABX := Lib.hid (show 0 < m' → ∀ p, B = some p → ¬ TF t x v p.block from fun h0 p hp k => D1.out.ab h0 p hp (.inl k))
      have HABY := Lib.hid (show 0 < m' → ∀ p, B = some p → ¬ TF d y v' p.block from fun h0 p hp k => D1.out.ab h0 p hp (.inr k))
      have HAQX := Lib.hid (show 0 < q' → ∀ p, Q = some p → ¬ TF t x v p.block from fun h0 p hp k => D1.out.aq h0 p hp (.inl k))
      have HAQY := Lib.hid (show 0 < q' → ∀ p, Q = some p → ¬ TF d y v' p.block from fun h0 p hp k => D1.out.aq h0 p hp (.inr k))
      clear NB hw1 hg g1 HC HM HQ hcap hpcap
      clear b0 b1 b3 d2 d4
      go_wp2_with fail
      go_region_held3 (fun w' => w'.cell? ⟨pb, 2, none⟩ = some (.pointer (some ⟨t, 0, none⟩)) ∧ w'.cell? ⟨pb, 4, none⟩ = some (.pointer (some ⟨d, 0, none⟩)) ∧ w'.cell? ⟨g, 1, none⟩ = some (.int .i64 a) ∧ w'.cell? ⟨g, 3, none⟩ = some (.slice B m' c)) (first | exact ⟨b2, b4, d1, d3⟩ | exact hsA | exact hsB) ((first
        | (go_at_call 9; go_loud (refine (tx_store (H1.out.tx.keep ?_) ?_ (D1.out.bytes.keep ?_) (fun h0 p hp => ⟨fun k => HABX.out h0 p hp (.inr (.inr k)), fun k => HABX.out h0 p hp (.inr (.inl k))⟩) a).mono ?_; (repeat (first | exact Grow.refl _ | refine Grow.drew ?_ | refine Grow.drewN ?_ _)); (first | exact hb1 | (simp; exact hb1)); (repeat (first | exact Grow.refl _ | refine Grow.drew ?_ | refine Grow.drewN ?_ _)); rintro e w4 ⟨rfl, v1, h4, t4', n4'⟩; have t4 : Turn (TF t x v) wc w4 := (Turn.grow (show Grow wc _ by (repeat (first | exact Grow.refl _ | refine Grow.drew ?_ | refine Grow.drewN ?_ _))) _).and (t4'.mono fun i k => .inr k); have n4 := tf_store (t := t) (x := x) (w := wc) n4'; have hsA := And.intro (H1.out.blk1 t4).c5.2.2.1 (And.intro (H1.out.blk1 t4).c5.2.2.2.2 (And.intro (t4.cell' d1 hgx) (t4.cell' d3 hgx))); clear t4' n4'))
        | (go_at_call 48; go_loud (refine (rx_store ((H1.out.rx1 t4).keep ?_) ?_ ((D1.out.bytes.turn' t4 HABX.out).keep ?_) (fun h0 p hp => ⟨fun k => HABY.out h0 p hp (.inr (.inr k)), fun k => HABY.out h0 p hp (.inr (.inl k))⟩) a).mono ?_; (repeat (first | exact Grow.refl _ | refine Grow.drew ?_ | refine Grow.drewN ?_ _)); (first | exact Nat.le_trans hb1 t4.size | (simp; exact Nat.le_trans hb1 t4.size)); (repeat (first | exact Grow.refl _ | refine Grow.drew ?_ | refine Grow.drewN ?_ _)); rintro e w5 ⟨rfl, v2, h5, t5', n5'⟩; have t5 : Turn (TF d y v') w4 w5 := (Turn.grow (show Grow w4 _ by (repeat (first | exact Grow.refl _ | refine Grow.drew ?_ | refine Grow.drewN ?_ _))) _).and (t5'.mono fun i k => .inr k); have n5 := tf_store (t := d) (x := y) (w := w4) n5'; have hsB := And.intro ((H1.out.blk1 t4).turn t5 H1.out.yp).c5.2.2.1 (And.intro ((H1.out.blk1 t4).turn t5 H1.out.yp).c5.2.2.2.2 (And.intro (t5.cell' (t4.cell' d1 hgx) hgy) (t5.cell' (t4.cell' d3 hgx) hgy))); clear t5' n5'))))
      all_goals
        have X := Lib.hid (PY.done G1.out rfl (H1.out.both hb1 rfl h4 t4 n4 h5 t5 n5))
        clear h4 t4 n4 h5 t5 n5 hsA hsB d0 d1 d3 b2 b4
        go_wp2_with fail
        go_ret
        exact ⟨ret_bool (by simp), X.out⟩
set_option maxHeartbeats 8000000 in
set_option maxRecDepth 8000 in
theorem does9_1 {w : World} {base pb l t dl d : Nat} {x y : MB} {s : MS} {L : List PT} {v v' : Value} (h : PY w base pb l t dl d x y s L v v') (hb : base ≤ w.heap.size) {m c q dq : Nat} {B Q : Option Addr} {a n : Int} {bs : List UInt8} {pk : List Int} (hd : DA9 w (PF t d x y v v') n B m c bs Q q dq pk) :
    Calls Try.prog 24 #[.pointer (some ⟨pb, 0, none⟩), .agg #[.int .i64 1, .int .i64 a, .int .i64 n, .slice B m c, .slice Q q dq]] w fun e w' => e = .returned (.bool true) ∧ Done9 w w' base pb l t dl d x.p y (cmS s L) (cmL s L) (PF t d x y v v') := by
  have H := Lib.hid h
  have HC := Lib.hid hd.cut
  have HNB := Lib.hid hd.nb
  have hcap := hd.cap
  have hpcap := hd.pcap
  obtain ⟨b0, b1, b2, b3, b4⟩ := h.blk.c5
  clear h hd
  obtain ⟨m', hm'⟩ : ∃ m', m' = min m 260 := ⟨_, rfl⟩
  obtain ⟨q', hq'⟩ : ∃ q', q' = min q 200 := ⟨_, rfl⟩
  rw [← hm', ← hq'] at HC
  try rw [← hm']
  try rw [← hq']
  obtain ⟨bs', hbs'⟩ : ∃ z, z = bs.take m' := ⟨_, rfl⟩
  obtain ⟨pk', hpk'⟩ : ∃ z, z = pk.take q' := ⟨_, rfl⟩
  rw [← hbs', ← hpk'] at HC
  try rw [← hbs']
  try rw [← hpk']
  have HM := Lib.hid hm'
  have HQ := Lib.hid hq'
  clear hm' hq' hbs' hpk'
  go_enter Try.func24, Try.ntmps24
  go_upto_if 13 with fail
  go_cut [3] (fun v wx => v = .pointer (some ⟨w.heap.size, 0, none⟩) ∧ wx = w.alloc (.cells #[.int .i64 1, .int .i64 a, .int .i64 n, .slice B m' c, .slice Q q dq] 54))
  case first =>
    by_cases h60 : 260 < m
    · have z1 : decide (260 < m) = true := decide_eq_true h60
      have z2 : decide ((260 : Int) < (m : Int)) = true := decide_eq_true (by omega)
      have i1 : 260 ≤ c := by omega
      have HE := Lib.hid (show 260 = m' by have := HM.out; omega)
      go_wp2_with fail
      all_goals first | (exfalso; omega) | (go_meet; exact ⟨rfl, by rw [← HE.out]⟩)
    · have z1 : decide (260 < m) = false := decide_eq_false h60
      have z2 : decide ((260 : Int) < (m : Int)) = false := decide_eq_false (by omega)
      have HE := Lib.hid (show m = m' by have := HM.out; omega)
      go_wp2_with fail
      all_goals first | (exfalso; omega) | (go_meet; exact ⟨rfl, by rw [← HE.out]⟩)
  case rest =>
    obtain ⟨rfl, hwc⟩ := hcut
    subst hwc
    go_upto_if 21 with fail
    go_cut [3] (fun v wx => v = .pointer (some ⟨w.heap.size, 0, none⟩) ∧ wx = w.alloc (.cells #[.int .i64 1, .int .i64 a, .int .i64 n, .slice B m' c, .slice Q q' dq] 54))
    case first =>
      by_cases h60 : 200 < q
      · have z1 : decide (200 < q) = true := decide_eq_true h60
        have z2 : decide ((200 : Int) < (q : Int)) = true := decide_eq_true (by omega)
        have i1 : 200 ≤ dq := by omega
        have HE := Lib.hid (show 200 = q' by have := HQ.out; omega)
        go_wp2_with fail
        all_goals first | (exfalso; omega) | (go_meet; exact ⟨rfl, by rw [← HE.out]⟩)
      · have z1 : decide (200 < q) = false := decide_eq_false h60
        have z2 : decide ((200 : Int) < (q : Int)) = false := decide_eq_false (by omega)
        have HE := Lib.hid (show q = q' by have := HQ.out; omega)
        go_wp2_with fail
        all_goals first | (exfalso; omega) | (go_meet; exact ⟨rfl, by rw [← HE.out]⟩)
    case rest =>
      obtain ⟨rfl, hwc⟩ := hcut
      obtain ⟨w1, hw1⟩ : ∃ w1, w1 = w.alloc (.cells #[.int .i64 1, .int .i64 a, .int .i64 n, .slice B m' c, .slice Q q' dq] 54) := ⟨_, rfl⟩
      have g1 : Grow w w1 := by rw [hw1]; exact (Grow.refl w).alloc _
      have NB := Row.new w 54 [.int .i64 1, .int .i64 a, .int .i64 n, .slice B m' c, .slice Q q' dq] _ rfl
      rw [← hw1] at hwc NB
      subst hwc
      obtain ⟨g, hg⟩ : ∃ g, g = w.heap.size := ⟨_, rfl⟩
      rw [← hg] at NB ⊢
      obtain ⟨d0, d1, d2, d3, d4⟩ := NB.1.c5
      have hgx : ¬ TF t x v g := fun q => by have := H.out.tx.tfl g q; omega
      have hgy : ¬ TF d y v' g := fun q => by have := H.out.rx.tfl g q; omega
      have H1 := Lib.hid (H.out.keep g1)
      have D1 := Lib.hid (HC.out.keep g1)
      have G1 := Lib.hid g1
      replace b0 := g1.cell b0
      replace b1 := g1.cell b1
      replace b2 := g1.cell b2
      replace b3 := g1.cell b3
      replace b4 := g1.cell b4
      have hb1 : base ≤ wc.heap.size := Nat.le_trans hb g1.size
      have HABX := Lib.hid (show 0 < m' → ∀ p, B = some p → ¬ TF t x v p.block from fun h0 p hp k => D1.out.ab h0 p hp (.inl k))
      have HABY := Lib.hid (show 0 < m' → ∀ p, B = some p → ¬ TF d y v' p.block from fun h0 p hp k => D1.out.ab h0 p hp (.inr k))
      have HAQX := Lib.hid (show 0 < q' → ∀ p, Q = some p → ¬ TF t x v p.block from fun h0 p hp k => D1.out.aq h0 p hp (.inl k))
      have HAQY := Lib.hid (show 0 < q' → ∀ p, Q = some p → ¬ TF d y v' p.block from fun h0 p hp k => D1.out.aq h0 p hp (.inr k))
      clear NB hw1 hg g1 HC HM HQ hcap hpcap
      clear b0 b1 b3 d1 d2 d3 d4
      go_wp2_with fail
      go_region_held3 (fun w' => w'.cell? ⟨pb, 2, none⟩ = some (.pointer (some ⟨t, 0, none⟩)) ∧ w'.cell? ⟨pb, 4, none⟩ = some (.pointer (some ⟨d, 0, none⟩))) (first | exact ⟨b2, b4⟩ | exact hsA | exact hsB) ((first
        | (go_at_call 15; go_loud (refine (tx_commit (H1.out.tx.keep ?_)).mono ?_; (repeat (first | exact Grow.refl _ | refine Grow.drew ?_ | refine Grow.drewN ?_ _)); rintro e w4 ⟨rfl, v1, h4, t4', n4'⟩; have t4 : Turn (TF t x v) wc w4 := (Turn.grow (show Grow wc _ by (repeat (first | exact Grow.refl _ | refine Grow.drew ?_ | refine Grow.drewN ?_ _))) _).and (t4'.mono fun i k => k.elim tf_mem (fun e => .inr (.inl e))); have n4 := tf_drop (t := t) (x := x) n4'; have hsA := And.intro (H1.out.blk1 t4).c5.2.2.1 (H1.out.blk1 t4).c5.2.2.2.2; clear t4' n4'))
        | (go_at_call 49; go_loud (refine (rx_commit ((H1.out.rx1 t4).keep ?_)).mono ?_; (repeat (first | exact Grow.refl _ | refine Grow.drew ?_ | refine Grow.drewN ?_ _)); rintro e w5 ⟨rfl, v2, h5, t5', n5'⟩; have t5 : Turn (TF d y v') w4 w5 := (Turn.grow (show Grow w4 _ by (repeat (first | exact Grow.refl _ | refine Grow.drew ?_ | refine Grow.drewN ?_ _))) _).and (t5'.mono fun i k => k.elim tf_mem (fun e => .inr (.inl e))); have n5 := tf_drop (t := d) (x := y) n5'; have hsB := And.intro ((H1.out.blk1 t4).turn t5 H1.out.yp).c5.2.2.1 ((H1.out.blk1 t4).turn t5 H1.out.yp).c5.2.2.2.2; clear t5' n5'))))
      all_goals
        have X := Lib.hid (PY.done G1.out rfl (H1.out.both hb1 rfl h4 t4 (fun k z => .inl (n4 k z)) h5 t5 (fun k z => .inl (n5 k z))))
        clear h4 t4 n4 h5 t5 n5 hsA hsB d0 b2 b4
        go_wp2_with fail
        go_ret
        exact ⟨ret_bool (by simp), X.out⟩
end Go.Proofs.Ytlinlmimakealaa

namespace Go.Proofs.Ytlinlmimakealaa
open Go.RowKit

set_option maxHeartbeats 8000000 in
set_option maxRecDepth 8000 in
theorem does9_2 {w : World} {base pb l t dl d : Nat} {x y : MB} {s : MS} {L : List PT} {v v' : Value} (h : PY w base pb l t dl d x y s L v v') (hb : base ≤ w.heap.size) {m c q dq : Nat} {B Q : Option Addr} {a n : Int} {bs : List UInt8} {pk : List Int} (hd : DA9 w (PF t d x y v v') n B m c bs Q q dq pk) :
    Calls Try.prog 24 #[.pointer (some ⟨pb, 0, none⟩), .agg #[.int .i64 2, .int .i64 a, .int .i64 n, .slice B m c, .slice Q q dq]] w fun e w' => e = .returned (.bool true) ∧ Done9 w w' base pb l t dl d x.p y s [] (PF t d x y v v') := by
  have H := Lib.hid h
  have HC := Lib.hid hd.cut
  have HNB := Lib.hid hd.nb
  have hcap := hd.cap
  have hpcap := hd.pcap
  obtain ⟨b0, b1, b2, b3, b4⟩ := h.blk.c5
  clear h hd
  obtain ⟨m', hm'⟩ : ∃ m', m' = min m 260 := ⟨_, rfl⟩
  obtain ⟨q', hq'⟩ : ∃ q', q' = min q 200 := ⟨_, rfl⟩
  rw [← hm', ← hq'] at HC
  try rw [← hm']
  try rw [← hq']
  obtain ⟨bs', hbs'⟩ : ∃ z, z = bs.take m' := ⟨_, rfl⟩
  obtain ⟨pk', hpk'⟩ : ∃ z, z = pk.take q' := ⟨_, rfl⟩
  rw [← hbs', ← hpk'] at HC
  try rw [← hbs']
  try rw [← hpk']
  have HM := Lib.hid hm'
  have HQ := Lib.hid hq'
  clear hm' hq' hbs' hpk'
  go_enter Try.func24, Try.ntmps24
  go_upto_if 13 with fail
  go_cut [3] (fun v wx => v = .pointer (some ⟨w.heap.size, 0, none⟩) ∧ wx = w.alloc (.cells #[.int .i64 2, .int .i64 a, .int .i64 n, .slice B m' c, .slice Q q dq] 54))
  case first =>
    by_cases h60 : 260 < m
    · have z1 : decide (260 < m) = true := decide_eq_true h60
      have z2 : decide ((260 : Int) < (m : Int)) = true := decide_eq_true (by omega)
      have i1 : 260 ≤ c := by omega
      have HE := Lib.hid (show 260 = m' by have := HM.out; omega)
      go_wp2_with fail
      all_goals first | (exfalso; omega) | (go_meet; exact ⟨rfl, by rw [← HE.out]⟩)
    · have z1 : decide (260 < m) = false := decide_eq_false h60
      have z2 : decide ((260 : Int) < (m : Int)) = false := decide_eq_false (by omega)
      have HE := Lib.hid (show m = m' by have := HM.out; omega)
      go_wp2_with fail
      all_goals first | (exfalso; omega) | (go_meet; exact ⟨rfl, by rw [← HE.out]⟩)
  case rest =>
    obtain ⟨rfl, hwc⟩ := hcut
    subst hwc
    go_upto_if 21 with fail
    go_cut [3] (fun v wx => v = .pointer (some ⟨w.heap.size, 0, none⟩) ∧ wx = w.alloc (.cells #[.int .i64 2, .int .i64 a, .int .i64 n, .slice B m' c, .slice Q q' dq] 54))
    case first =>
      by_cases h60 : 200 < q
      · have z1 : decide (200 < q) = true := decide_eq_true h60
        have z2 : decide ((200 : Int) < (q : Int)) = true := decide_eq_true (by omega)
        have i1 : 200 ≤ dq := by omega
        have HE := Lib.hid (show 200 = q' by have := HQ.out; omega)
        go_wp2_with fail
        all_goals first | (exfalso; omega) | (go_meet; exact ⟨rfl, by rw [← HE.out]⟩)
      · have z1 : decide (200 < q) = false := decide_eq_false h60
        have z2 : decide ((200 : Int) < (q : Int)) = false := decide_eq_false (by omega)
        have HE := Lib.hid (show q = q' by have := HQ.out; omega)
        go_wp2_with fail
        all_goals first | (exfalso; omega) | (go_meet; exact ⟨rfl, by rw [← HE.out]⟩)
    case rest =>
      obtain ⟨rfl, hwc⟩ := hcut
      obtain ⟨w1, hw1⟩ : ∃ w1, w1 = w.alloc (.cells #[.int .i64 2, .int .i64 a, .int .i64 n, .slice B m' c, .slice Q q' dq] 54) := ⟨_, rfl⟩
      have g1 : Grow w w1 := by rw [hw1]; exact (Grow.refl w).alloc _
      have NB := Row.new w 54 [.int .i64 2, .int .i64 a, .int .i64 n, .slice B m' c, .slice Q q' dq] _ rfl
      rw [← hw1] at hwc NB
      subst hwc
      obtain ⟨g, hg⟩ : ∃ g, g = w.heap.size := ⟨_, rfl⟩
      rw [← hg] at NB ⊢
      obtain ⟨d0, d1, d2, d3, d4⟩ := NB.1.c5
      have hgx : ¬ TF t x v g := fun q => by have := H.out.tx.tfl g q; omega
      have hgy : ¬ TF d y v' g := fun q => by have := H.out.rx.tfl g q; omega
      have H1 := Lib.hid (H.out.keep g1)
      have D1 := Lib.hid (HC.out.keep g1)
      have G1 := Lib.hid g1
      replace b0 := g1.cell b0
      replace b1 := g1.cell b1
      replace b2 := g1.cell b2
      replace b3 := g1.cell b3
      replace b4 := g1.cell b4
      have hb1 : base ≤ wc.heap.size := Nat.le_trans hb g1.size
      have HABX := Lib.hid (show 0 < m' → ∀ p, B = some p → ¬ TF t x v p.block from fun h0 p hp k => D1.out.ab h0 p hp (.inl k))
      have HABY := Lib.hid (show 0 < m' → ∀ p, B = some p → ¬ TF d y v' p.block from fun h0 p hp k => D1.out.ab h0 p hp (.inr k))
      have HAQX := Lib.hid (show 0 < q' → ∀ p, Q = some p → ¬ TF t x v p.block from fun h0 p hp k => D1.out.aq h0 p hp (.inl k))
      have HAQY := Lib.hid (show 0 < q' → ∀ p, Q = some p → ¬ TF d y v' p.block from fun h0 p hp k => D1.out.aq h0 p hp (.inr k))
      clear NB hw1 hg g1 HC HM HQ hcap hpcap
      clear b0 b1 b3 d1 d2 d3 d4
      go_wp2_with fail
      refine (tx_drop H1.out.tx).mono ?_
      rintro e w4 ⟨rfl, h4, t4'⟩
      have t4 : Turn (TF t x v) wc w4 := t4'.mono fun i e => .inr (.inl e)
      have H4 := Lib.hid h4
      have T4 := Lib.hid t4
      have R4 := Lib.hid (H1.out.rx1 t4)
      have c4 := (H1.out.blk1 t4).c5.2.2.2.2
      have e2 := (H1.out.rx1 t4).blk.1.2 2 _ rfl
      have f2 := (H1.out.rx1 t4).blk.2 2 (by simp)
      clear h4 t4 t4' b2 b4 d0
      go_wp2_with fail
      go_ret
      exact ⟨rfl, PY.done G1.out rfl (H1.out.both hb1 rfl H4.out T4.out (fun k z => .inl (tf_drop (.inl rfl) k z)) (R4.out.put (OP.nil _ _) (Turn.refl _ _) (.inr fun g hg => by cases hg) Held.nil) ((Turn.setCell (F := fun k => k = d) _ (p := ⟨d, 2, none⟩) rfl _).mono fun i e => .inr (.inl e)) (fun k z => .inl (tf_drop (.inl rfl) k z)))⟩
set_option maxHeartbeats 8000000 in
set_option maxRecDepth 8000 in
theorem does9_3 {w : World} {base pb l t dl d : Nat} {x y : MB} {s : MS} {L : List PT} {v v' : Value} (h : PY w base pb l t dl d x y s L v v') (hb : base ≤ w.heap.size) {m c q dq : Nat} {B Q : Option Addr} {a n : Int} {bs : List UInt8} {pk : List Int} (hd : DA9 w (PF t d x y v v') n B m c bs Q q dq pk) :
    Calls Try.prog 24 #[.pointer (some ⟨pb, 0, none⟩), .agg #[.int .i64 3, .int .i64 a, .int .i64 n, .slice B m c, .slice Q q dq]] w fun e w' => e = .returned (.bool true) ∧ Done9 w w' base pb l t dl d x.p y (s.crash (pk.take (min q 200))) L (PF t d x y v v') := by
  have H := Lib.hid h
  have HC := Lib.hid hd.cut
  have HNB := Lib.hid hd.nb
  have hcap := hd.cap
  have hpcap := hd.pcap
  obtain ⟨b0, b1, b2, b3, b4⟩ := h.blk.c5
  clear h hd
  obtain ⟨m', hm'⟩ : ∃ m', m' = min m 260 := ⟨_, rfl⟩
  obtain ⟨q', hq'⟩ : ∃ q', q' = min q 200 := ⟨_, rfl⟩
  rw [← hm', ← hq'] at HC
  try rw [← hm']
  try rw [← hq']
  obtain ⟨bs', hbs'⟩ : ∃ z, z = bs.take m' := ⟨_, rfl⟩
  obtain ⟨pk', hpk'⟩ : ∃ z, z = pk.take q' := ⟨_, rfl⟩
  rw [← hbs', ← hpk'] at HC
  try rw [← hbs']
  try rw [← hpk']
  have HM := Lib.hid hm'
  have HQ := Lib.hid hq'
  clear hm' hq' hbs' hpk'
  go_enter Try.func24, Try.ntmps24
  go_upto_if 13 with fail
  go_cut [3] (fun v wx => v = .pointer (some ⟨w.heap.size, 0, none⟩) ∧ wx = w.alloc (.cells #[.int .i64 3, .int .i64 a, .int .i64 n, .slice B m' c, .slice Q q dq] 54))
  case first =>
    by_cases h60 : 260 < m
    · have z1 : decide (260 < m) = true := decide_eq_true h60
      have z2 : decide ((260 : Int) < (m : Int)) = true := decide_eq_true (by omega)
      have i1 : 260 ≤ c := by omega
      have HE := Lib.hid (show 260 = m' by have := HM.out; omega)
      go_wp2_with fail
      all_goals first | (exfalso; omega) | (go_meet; exact ⟨rfl, by rw [← HE.out]⟩)
    · have z1 : decide (260 < m) = false := decide_eq_false h60
      have z2 : decide ((260 : Int) < (m : Int)) = false := decide_eq_false (by omega)
      have HE := Lib.hid (show m = m' by have := HM.out; omega)
      go_wp2_with fail
      all_goals first | (exfalso; omega) | (go_meet; exact ⟨rfl, by rw [← HE.out]⟩)
  case rest =>
    obtain ⟨rfl, hwc⟩ := hcut
    subst hwc
    go_upto_if 21 with fail
    go_cut [3] (fun v wx => v = .pointer (some ⟨w.heap.size, 0, none⟩) ∧ wx = w.alloc (.cells #[.int .i64 3, .int .i64 a, .int .i64 n, .slice B m' c, .slice Q q' dq] 54))
    case first =>
      by_cases h60 : 200 < q
      · have z1 : decide (200 < q) = true := decide_eq_true h60
        have z2 : decide ((200 : Int) < (q : Int)) = true := decide_eq_true (by omega)
        have i1 : 200 ≤ dq := by omega
        have HE := Lib.hid (show 200 = q' by have := HQ.out; omega)
        go_wp2_with fail
        all_goals first | (exfalso; omega) | (go_meet; exact ⟨rfl, by rw [← HE.out]⟩)
      · have z1 : decide (200 < q) = false := decide_eq_false h60
        have z2 : decide ((200 : Int) < (q : Int)) = false := decide_eq_false (by omega)
        have HE := Lib.hid (show q = q' by have := HQ.out; omega)
        go_wp2_with fail
        all_goals first | (exfalso; omega) | (go_meet; exact ⟨rfl, by rw [← HE.out]⟩)
    case rest =>
      obtain ⟨rfl, hwc⟩ := hcut
      obtain ⟨w1, hw1⟩ : ∃ w1, w1 = w.alloc (.cells #[.int .i64 3, .int .i64 a, .int .i64 n, .slice B m' c, .slice Q q' dq] 54) := ⟨_, rfl⟩
      have g1 : Grow w w1 := by rw [hw1]; exact (Grow.refl w).alloc _
      have NB := Row.new w 54 [.int .i64 3, .int .i64 a, .int .i64 n, .slice B m' c, .slice Q q' dq] _ rfl
      rw [← hw1] at hwc NB
      subst hwc
      obtain ⟨g, hg⟩ : ∃ g, g = w.heap.size := ⟨_, rfl⟩
      rw [← hg] at NB ⊢
      obtain ⟨d0, d1, d2, d3, d4⟩ := NB.1.c5
      have hgx : ¬ TF t x v g := fun q => by have := H.out.tx.tfl g q; omega
      have hgy : ¬ TF d y v' g := fun q => by have := H.out.rx.tfl g q; omega
      have H1 := Lib.hid (H.out.keep g1)
      have D1 := Lib.hid (HC.out.keep g1)
      have G1 := Lib.hid g1
      replace b0 := g1.cell b0
      replace b1 := g1.cell b1
      replace b2 := g1.cell b2
      replace b3 := g1.cell b3
      replace b4 := g1.cell b4
      have hb1 : base ≤ wc.heap.size := Nat.le_trans hb g1.size
      have HABX := Lib.hid (show 0 < m' → ∀ p, B = some p → ¬ TF t x v p.block from fun h0 p hp k => D1.out.ab h0 p hp (.inl k))
      have HABY := Lib.hid (show 0 < m' → ∀ p, B = some p → ¬ TF d y v' p.block from fun h0 p hp k => D1.out.ab h0 p hp (.inr k))
      have HAQX := Lib.hid (show 0 < q' → ∀ p, Q = some p → ¬ TF t x v p.block from fun h0 p hp k => D1.out.aq h0 p hp (.inl k))
      have HAQY := Lib.hid (show 0 < q' → ∀ p, Q = some p → ¬ TF d y v' p.block from fun h0 p hp k => D1.out.aq h0 p hp (.inr k))
      clear NB hw1 hg g1 HC HM HQ hcap hpcap
      clear b1 b2 b4 d1 d2 d3
      go_wp2_with fail
      go_region_held3 (fun w' => w'.cell? ⟨pb, 0, none⟩ = some (.pointer (some ⟨x.p, 0, none⟩)) ∧ w'.cell? ⟨g, 4, none⟩ = some (.slice Q q' dq)) (first | exact ⟨b0, d4⟩ | exact hsA) ((go_at_call 21; go_loud (refine (tx_crash (H1.out.tx.keep ?_) (D1.out.picks.keep ?_) (fun h0 p hp k => HAQX.out h0 p hp (tf_mem k))).mono ?_; (repeat (first | exact Grow.refl _ | refine Grow.drew ?_ | refine Grow.drewN ?_ _)); rintro e w4 ⟨rfl, x', hx', h4, t4', n4'⟩; have t4 : Turn (TF t x v) wc w4 := (Turn.grow (show Grow wc _ by (repeat (first | exact Grow.refl _ | refine Grow.drew ?_ | refine Grow.drewN ?_ _))) _).and (t4'.mono fun i k => tf_mem k); have n4 : ∀ k, x'.F k → x.F k ∨ wc.heap.size ≤ k := n4'; have hsA := And.intro (H1.out.blk1 t4).c5.1 (t4.cell' d4 hgx); clear t4' n4')))
      all_goals
        have H4 := Lib.hid h4
        have T4 := Lib.hid t4
        have N4 := Lib.hid (show ∀ k, TF t x' v k → TF t x v k ∨ wc.heap.size ≤ k from fun k z => z.elim (fun z => (n4 k z).imp tf_mem id) (fun z => .inl (.inr z)))
        have c3 := (H1.out.blk1 t4).c5.2.2.2.1
        have c4 := t4.cell' d4 hgx
        have QK := Lib.hid (D1.out.picks.turn t4 HAQX.out)
        clear h4 t4 n4 hsA b0 b3 d0 d4
        go_wp2_with fail
        go_region_held3 (fun w' => w'.cell? ⟨pb, 3, none⟩ = some (.pointer (some ⟨y.p, 0, none⟩)) ∧ w'.cell? ⟨g, 4, none⟩ = some (.slice Q q' dq)) (first | exact ⟨c3, c4⟩ | exact hsB) ((go_at_call 50; go_loud (refine (rx_crash ((H1.out.rx1 T4.out).keep ?_) (QK.out.keep ?_) (fun h0 p hp k => HAQY.out h0 p hp (tf_mem k)) D1.out.pw).mono ?_; (repeat (first | exact Grow.refl _ | refine Grow.drew ?_ | refine Grow.drewN ?_ _)); rintro e w5 ⟨rfl, h5, t5'⟩; have t5 : Turn (TF d y v') w4 w5 := (Turn.grow (show Grow w4 _ by (repeat (first | exact Grow.refl _ | refine Grow.drew ?_ | refine Grow.drewN ?_ _))) _).and (t5'.mono fun i k => tf_mem k); have hsB := And.intro ((H1.out.blk1 T4.out).turn t5 H1.out.yp).c5.2.2.2.1 (t5.cell' c4 hgy); clear t5')))
        all_goals
          have X := Lib.hid (PY.done G1.out hx' (H1.out.both hb1 hx' H4.out T4.out N4.out h5 t5 (fun k z => .inl z)))
          clear h5 t5 hsB c3 c4
          go_wp2_with fail
          go_ret
          exact ⟨rfl, X.out⟩
end Go.Proofs.Ytlinlmimakealaa

namespace Go.Proofs.Ytlinlmimakealaa
open Go.RowKit

set_option maxHeartbeats 8000000 in
set_option maxRecDepth 8000 in
theorem does9_4 {w : World} {base pb l t dl d : Nat} {x y : MB} {s : MS} {L : List PT} {v v' : Value} (h : PY w base pb l t dl d x y s L v v') (hb : base ≤ w.heap.size) {m c q dq : Nat} {B Q : Option Addr} {a n : Int} {bs : List UInt8} {pk : List Int} (hd : DA9 w (PF t d x y v v') n B m c bs Q q dq pk) :
    Calls Try.prog 24 #[.pointer (some ⟨pb, 0, none⟩), .agg #[.int .i64 4, .int .i64 a, .int .i64 n, .slice B m c, .slice Q q dq]] w fun e w' => e = .returned (.bool true) ∧ Done9 w w' base pb l t dl d x.p y (s.store a (bs.take (min m 260))) L (PF t d x y v v') := by
  have H := Lib.hid h
  have HC := Lib.hid hd.cut
  have HNB := Lib.hid hd.nb
  have hcap := hd.cap
  have hpcap := hd.pcap
  obtain ⟨b0, b1, b2, b3, b4⟩ := h.blk.c5
  clear h hd
  obtain ⟨m', hm'⟩ : ∃ m', m' = min m 260 := ⟨_, rfl⟩
  obtain ⟨q', hq'⟩ : ∃ q', q' = min q 200 := ⟨_, rfl⟩
  rw [← hm', ← hq'] at HC
  try rw [← hm']
  try rw [← hq']
  obtain ⟨bs', hbs'⟩ : ∃ z, z = bs.take m' := ⟨_, rfl⟩
  obtain ⟨pk', hpk'⟩ : ∃ z, z = pk.take q' := ⟨_, rfl⟩
  rw [← hbs', ← hpk'] at HC
  try rw [← hbs']
  try rw [← hpk']
  have HM := Lib.hid hm'
  have HQ := Lib.hid hq'
  clear hm' hq' hbs' hpk'
  go_enter Try.func24, Try.ntmps24
  go_upto_if 13 with fail
  go_cut [3] (fun v wx => v = .pointer (some ⟨w.heap.size, 0, none⟩) ∧ wx = w.alloc (.cells #[.int .i64 4, .int .i64 a, .int .i64 n, .slice B m' c, .slice Q q dq] 54))
  case first =>
    by_cases h60 : 260 < m
    · have z1 : decide (260 < m) = true := decide_eq_true h60
      have z2 : decide ((260 : Int) < (m : Int)) = true := decide_eq_true (by omega)
      have i1 : 260 ≤ c := by omega
      have HE := Lib.hid (show 260 = m' by have := HM.out; omega)
      go_wp2_with fail
      all_goals first | (exfalso; omega) | (go_meet; exact ⟨rfl, by rw [← HE.out]⟩)
    · have z1 : decide (260 < m) = false := decide_eq_false h60
      have z2 : decide ((260 : Int) < (m : Int)) = false := decide_eq_false (by omega)
      have HE := Lib.hid (show m = m' by have := HM.out; omega)
      go_wp2_with fail
      all_goals first | (exfalso; omega) | (go_meet; exact ⟨rfl, by rw [← HE.out]⟩)
  case rest =>
    obtain ⟨rfl, hwc⟩ := hcut
    subst hwc
    go_upto_if 21 with fail
    go_cut [3] (fun v wx => v = .pointer (some ⟨w.heap.size, 0, none⟩) ∧ wx = w.alloc (.cells #[.int .i64 4, .int .i64 a, .int .i64 n, .slice B m' c, .slice Q q' dq] 54))
    case first =>
      by_cases h60 : 200 < q
      · have z1 : decide (200 < q) = true := decide_eq_true h60
        have z2 : decide ((200 : Int) < (q : Int)) = true := decide_eq_true (by omega)
        have i1 : 200 ≤ dq := by omega
        have HE := Lib.hid (show 200 = q' by have := HQ.out; omega)
        go_wp2_with fail
        all_goals first | (exfalso; omega) | (go_meet; exact ⟨rfl, by rw [← HE.out]⟩)
      · have z1 : decide (200 < q) = false := decide_eq_false h60
        have z2 : decide ((200 : Int) < (q : Int)) = false := decide_eq_false (by omega)
        have HE := Lib.hid (show q = q' by have := HQ.out; omega)
        go_wp2_with fail
        all_goals first | (exfalso; omega) | (go_meet; exact ⟨rfl, by rw [← HE.out]⟩)
    case rest =>
      obtain ⟨rfl, hwc⟩ := hcut
      obtain ⟨w1, hw1⟩ : ∃ w1, w1 = w.alloc (.cells #[.int .i64 4, .int .i64 a, .int .i64 n, .slice B m' c, .slice Q q' dq] 54) := ⟨_, rfl⟩
      have g1 : Grow w w1 := by rw [hw1]; exact (Grow.refl w).alloc _
      have NB := Row.new w 54 [.int .i64 4, .int .i64 a, .int .i64 n, .slice B m' c, .slice Q q' dq] _ rfl
      rw [← hw1] at hwc NB
      subst hwc
      obtain ⟨g, hg⟩ : ∃ g, g = w.heap.size := ⟨_, rfl⟩
      rw [← hg] at NB ⊢
      obtain ⟨d0, d1, d2, d3, d4⟩ := NB.1.c5
      have hgx : ¬ TF t x v g := fun q => by have := H.out.tx.tfl g q; omega
      have hgy : ¬ TF d y v' g := fun q => by have := H.out.rx.tfl g q; omega
      have H1 := Lib.hid (H.out.keep g1)
      have D1 := Lib.hid (HC.out.keep g1)
      have G1 := Lib.hid g1
      replace b0 := g1.cell b0
      replace b1 := g1.cell b1
      replace b2 := g1.cell b2
      replace b3 := g1.cell b3
      replace b4 := g1.cell b4
      have hb1 : base ≤ wc.heap.size := Nat.le_trans hb g1.size
      have HABX := Lib.hid (show 0 < m' → ∀ p, B = some p → ¬ TF t x v p.block from fun h0 p hp k => D1.out.ab h0 p hp (.inl k))
      have HABY := Lib.hid (show 0 < m' → ∀ p, B = some p → ¬ TF d y v' p.block from fun h0 p hp k => D1.out.ab h0 p hp (.inr k))
      have HAQX := Lib.hid (show 0 < q' → ∀ p, Q = some p → ¬ TF t x v p.block from fun h0 p hp k => D1.out.aq h0 p hp (.inl k))
      have HAQY := Lib.hid (show 0 < q' → ∀ p, Q = some p → ¬ TF d y v' p.block from fun h0 p hp k => D1.out.aq h0 p hp (.inr k))
      clear NB hw1 hg g1 HC HM HQ hcap hpcap
      clear b1 b2 b4 d2 d4
      go_wp2_with fail
      go_region_held3 (fun w' => w'.cell? ⟨pb, 0, none⟩ = some (.pointer (some ⟨x.p, 0, none⟩)) ∧ w'.cell? ⟨pb, 3, none⟩ = some (.pointer (some ⟨y.p, 0, none⟩)) ∧ w'.cell? ⟨g, 1, none⟩ = some (.int .i64 a) ∧ w'.cell? ⟨g, 3, none⟩ = some (.slice B m' c)) (first | exact ⟨b0, b3, d1, d3⟩ | exact hsA | exact hsB) ((first
        | (go_at_call 17; go_loud (refine (tx_mstore (H1.out.tx.keep ?_) (D1.out.bytes.keep ?_) (fun h0 p hp k => HABX.out h0 p hp (tf_mem k)) a).mono ?_; (repeat (first | exact Grow.refl _ | refine Grow.drew ?_ | refine Grow.drewN ?_ _)); rintro e w4 ⟨rfl, h4, t4'⟩; have t4 : Turn (TF t x v) wc w4 := (Turn.grow (show Grow wc _ by (repeat (first | exact Grow.refl _ | refine Grow.drew ?_ | refine Grow.drewN ?_ _))) _).and (t4'.mono fun i k => tf_mem k); have hsA := And.intro (H1.out.blk1 t4).c5.1 (And.intro (H1.out.blk1 t4).c5.2.2.2.1 (And.intro (t4.cell' d1 hgx) (t4.cell' d3 hgx))); clear t4'))
        | (go_at_call 51; go_loud (refine (rx_mstore ((H1.out.rx1 t4).keep ?_) ((D1.out.bytes.turn' t4 HABX.out).keep ?_) (fun h0 p hp k => HABY.out h0 p hp (tf_mem k)) a).mono ?_; (repeat (first | exact Grow.refl _ | refine Grow.drew ?_ | refine Grow.drewN ?_ _)); rintro e w5 ⟨rfl, h5, t5'⟩; have t5 : Turn (TF d y v') w4 w5 := (Turn.grow (show Grow w4 _ by (repeat (first | exact Grow.refl _ | refine Grow.drew ?_ | refine Grow.drewN ?_ _))) _).and (t5'.mono fun i k => tf_mem k); have hsB := And.intro ((H1.out.blk1 t4).turn t5 H1.out.yp).c5.1 (And.intro ((H1.out.blk1 t4).turn t5 H1.out.yp).c5.2.2.2.1 (And.intro (t5.cell' (t4.cell' d1 hgx) hgy) (t5.cell' (t4.cell' d3 hgx) hgy))); clear t5'))))
      all_goals
        have X := Lib.hid (PY.done G1.out rfl (H1.out.both hb1 rfl h4 t4 (fun k z => .inl z) h5 t5 (fun k z => .inl z)))
        clear h4 t4 h5 t5 hsA hsB d0 d1 d3 b0 b3
        go_wp2_with fail
        go_ret
        exact ⟨ret_bool (by simp), X.out⟩
end Go.Proofs.Ytlinlmimakealaa
