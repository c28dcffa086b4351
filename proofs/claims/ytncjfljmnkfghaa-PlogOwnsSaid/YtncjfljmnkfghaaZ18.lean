/- An argument that is a slice of slices of bytes. An argument that is a slice of patches, or a slice of such slices. commonsref08.Log: End, keep, Clear. commonsref08.Log: Read. No statement of the seat is proved here. -/
import Derived.Test.YtncjfljmnkfghaaZ16
import Derived.Deep.Slices
import Derived.DataReads
import Derived.Test.YtncjfljmnkfghaaZ13
import Derived.Test.YtncjfljmnkfghaaZ11
import Derived.Test.YtncjfljmnkfghaaZ07
import Derived.Test.YtncjfljmnkfghaaZ14
namespace Go.Proofs.Ytncjfljmnkfghaa
open Go.RowKit
open Go.ChangeShapes Go.WideShapes Go.ChangeAt

set_option maxRecDepth 8000 in
theorem trod_bytes {H : Type} {enc : TypeId × Value → H} {W : World} {base fuel : Nat} {cs : List Value} {x : DataW H × List MemPlace} {spare : Nat → Bool} {held : Bool}
    (hf : DataW.trod enc Try.prog W base spare held fuel 24 cs = some x) (hs : ∀ b, spare b = true) :
    ∃ (a : Option Addr) (bs : List UInt8) (c : Nat), cs = [.slice a bs.length c] ∧ RB W W.heap.size a bs ∧ bs.length ≤ c ∧ c ≤ maxLen ∧ (a = none → c = 0) := by
  rcases open_ints Try.underlying24 Try.underlying5 (by kernel_rfl) hf with ⟨hcs, _⟩ | ⟨x, l, c, zs, hcs, _, hl, hm, hz, _, hcell, hwz⟩
  · obtain ⟨bs, hb, h1, h2, h3, h4⟩ := rb_of_row (w := W) (a := none) (len := 0) (cap := 0) (zs := []) (.inl ⟨rfl, rfl, rfl, rfl⟩)
    exact ⟨none, bs, 0, by rw [hcs, ← hb], h1, h2, h3, h4⟩
  · obtain ⟨bs, hb, h1, h2, h3, h4⟩ := rb_of_row (w := W) (a := some x) (len := l) (cap := c) (zs := zs) (.inr ⟨x, rfl, hl, hm, by simpa [hs] using hz, hcell, hwz⟩)
    exact ⟨some x, bs, c, by rw [hcs, ← hb], h1, h2, h3, h4⟩

/-- A slice of slices of bytes that is read. -/
def Parts (w : World) (B : Nat) (A : Option Addr) (L : List (List UInt8)) : Prop :=
  0 < L.length → ∃ b o, A = some ⟨b, o, none⟩ ∧ b < B ∧ ∀ k (h : k < L.length), ∃ Ak ck, w.cell? ⟨b, o + k, none⟩ = some (.slice Ak (L[k]).length ck) ∧ RB w B Ak L[k] ∧ (L[k]).length ≤ ck ∧ ck ≤ maxLen ∧ (Ak = none → ck = 0)
theorem Parts.below {w w' : World} {B : Nat} {A : Option Addr} {L : List (List UInt8)} (h : Parts w B A L) (hb : Below B w w') : Parts w' B A L := by
  intro h0
  obtain ⟨b, o, e, hlt, hk⟩ := h h0
  refine ⟨b, o, e, hlt, fun k hk2 => ?_⟩
  obtain ⟨Ak, ck, h1, h2, h3⟩ := hk k hk2
  exact ⟨Ak, ck, (hb.cell (p := ⟨b, o + k, none⟩) hlt).trans h1, h2.below hb, h3⟩

theorem choose_list {α : Type} {n : Nat} {p : Nat → α → Prop} (h : ∀ i, i < n → ∃ a, p i a) : ∃ L : List α, L.length = n ∧ ∀ i (hi : i < L.length), p i L[i] := by
  induction n with
  | zero => exact ⟨[], rfl, fun i hi => by simp at hi⟩
  | succ n ih =>
    obtain ⟨L, hL, hp⟩ := ih (fun i hi => h i (by omega))
    obtain ⟨a, ha⟩ := h n (by omega)
    refine ⟨L ++ [a], by simp [hL], fun i hi => ?_⟩
    by_cases hi2 : i < L.length
    · rw [List.getElem_append_left hi2]; exact hp i hi2
    · have e : i = n := by simp at hi; omega
      subst e
      rw [List.getElem_append_right (by omega)]
      simpa [hL] using ha

set_option maxRecDepth 8000 in
theorem open_parts {H : Type} {enc : TypeId × Value → H} {W : World} {b0 base : Nat} {v : Value} {d : DataW H} {p : List MemPlace} {spare : Nat → Bool} {held : Bool} {T : TypeId}
    (hT : Try.prog.underlying T = some (.slice 24)) (hv : Value.okWide Try.prog W .any b0 T v) (h : DataW.Trod enc Try.prog W base spare held T v d p) (hs : ∀ b, spare b = true) :
    ∃ (a : Option Addr) (L : List (List UInt8)) (c : Nat), v = .slice a L.length c ∧ Parts W W.heap.size a L ∧ L.length ≤ c ∧ c ≤ maxLen := by
  obtain ⟨a, len, cap, rfl⟩ := okWide_slice hT hv
  obtain ⟨fuel, hf⟩ := h
  rcases Deep.open_slice1 hT (by kernel_rfl) hf with ⟨hcs, _⟩ | ⟨x, l, c, m, n, V, D, Pl, hcs, _, hl, hm, hmm, _, hx⟩
  · simp [Value.cells] at hcs
    obtain ⟨rfl, rfl, rfl⟩ := hcs
    exact ⟨none, [], 0, rfl, fun h0 => by simp at h0, Nat.le_refl _, by unfold maxLen; omega⟩
  · simp [Value.cells] at hcs
    obtain ⟨rfl, rfl, rfl⟩ := hcs
    have hmc : m = cap := by rw [hmm, hs]; rfl
    have hel : ∀ i, i < len → ∃ bs : List UInt8, ∃ Ak ck, V i = .slice Ak bs.length ck ∧ RB W W.heap.size Ak bs ∧ bs.length ≤ ck ∧ ck ≤ maxLen ∧ (Ak = none → ck = 0) := by
      intro i hi
      obtain ⟨_, ht⟩ := hx i (by omega)
      obtain ⟨Ak, bs, ck, e, h1, h2, h3, h4⟩ := trod_bytes ht hs
      injection e with e
      exact ⟨bs, Ak, ck, e, h1, h2, h3, h4⟩
    obtain ⟨L, hL, hp⟩ := choose_list hel
    refine ⟨some x, L, cap, by rw [hL], fun h0 => ?_, by omega, hm⟩
    rw [hL] at h0
    obtain ⟨hc0, _⟩ := hx 0 (by omega)
    obtain ⟨b, off, spot⟩ := x
    have hspot : spot = none := by simpa [Addr.add] using World.cell?_spot hc0
    subst hspot
    have hlt := World.block_lt_of_cell? W _ hc0
    refine ⟨b, off, rfl, by simpa [Addr.add] using hlt, fun k hk => ?_⟩
    obtain ⟨Ak, ck, e, h1⟩ := hp k hk
    obtain ⟨hck, _⟩ := hx k (by omega)
    rw [Addr.add_lit, e] at hck
    exact ⟨Ak, ck, hck, h1⟩
end Go.Proofs.Ytncjfljmnkfghaa

namespace Go.Proofs.Ytncjfljmnkfghaa
open Go.RowKit
open Go.ChangeShapes Go.WideShapes Go.ChangeAt

set_option maxRecDepth 8000 in
theorem trod_pt {H : Type} {enc : TypeId × Value → H} {W : World} {base fuel : Nat} {cs : List Value} {x : DataW H × List MemPlace} {spare : Nat → Bool} {held : Bool}
    (hf : DataW.trod enc Try.prog W base spare held fuel 50 cs = some x) : ∃ p : PT, cs = p.cells ∧ p.wide := by
  obtain ⟨xs, n, _, -, hl, hlen, hg⟩ := DataW.trod_struct Try.underlying50 hf
  have hC : Try.prog.cellsOf 50 = 2 := by kernel_rfl
  have e3 : Try.prog.cellsOf 3 = 1 := by kernel_rfl
  have e9 : Try.prog.cellsOf 9 = 1 := by kernel_rfl
  match cs, hl.trans hC with
  | [c0, c1], _ =>
    match xs, hlen with
    | [y0, y1], _ =>
      have g0 : DataW.trod enc Try.prog W base spare held n 3 [c0] = some y0 := by simpa [e3] using hg 0 _ rfl
      have g1 : DataW.trod enc Try.prog W base spare held n 9 [c1] = some y1 := by simpa [e9] using hg 1 _ rfl
      obtain ⟨z0, h0, -, b0⟩ := DataW.trod_int Try.underlying3 g0
      obtain ⟨z1, h1, -, -⟩ := DataW.trod_string Try.underlying9 g1
      simp only [List.cons.injEq, and_true] at h0 h1
      subst h0 h1
      exact ⟨⟨z0, z1⟩, rfl, i64_bounds b0⟩

set_option maxRecDepth 8000 in
theorem trod_pats {H : Type} {enc : TypeId × Value → H} {W : World} {base fuel : Nat} {cs : List Value} {x : DataW H × List MemPlace} {spare : Nat → Bool} {held : Bool}
    (hf : DataW.trod enc Try.prog W base spare held fuel 22 cs = some x) (hs : ∀ b, spare b = true) :
    ∃ (a : Option Addr) (L : List PT) (c : Nat), cs = [.slice a L.length c] ∧ RQ W a L.length L ∧ L.length ≤ c ∧ ∀ p ∈ L, p.wide := by
  have hC : Try.prog.cellsOf 50 = 2 := by kernel_rfl
  rcases Deep.open_slice Try.underlying22 hf with ⟨hcs, _⟩ | ⟨x, l, c, m, n, D, Pl, hcs, _, hl, hm, hmm, _, hx⟩
  · exact ⟨none, [], 0, hcs, ⟨rfl, Rd.nil⟩, Nat.le_refl _, fun p hp => by simp at hp⟩
  · have hmc : m = c := by rw [hmm, hs]; rfl
    have hel : ∀ i, i < l → ∃ r : PT, r.wide ∧ ∀ j, j < 2 → W.cell? ((x.add (i * 2)).add j) = (r.cells)[j]? := by
      intro i hi
      obtain ⟨cs', h1, ht⟩ := hx i (by omega)
      rw [hC] at h1
      obtain ⟨r, rfl, hw⟩ := trod_pt ht
      exact ⟨r, hw, (World.cells?_some h1).2.2⟩
    obtain ⟨L, hL, hp⟩ := choose_list hel
    refine ⟨some x, L, c, by rw [hL, hcs], ⟨rfl, pcs_length L, fun h0 => ?_⟩, by omega, fun p hp' => ?_⟩
    · have hc0 := (hp 0 h0).2 0 (by omega)
      obtain ⟨b, off, spot⟩ := x
      have hspot : spot = none := by simpa [Addr.add] using World.cell?_spot hc0
      subst hspot
      have hlt := World.block_lt_of_cell? W _ hc0
      refine ⟨b, off, rfl, by simpa [Addr.add] using hlt, fun j u hj => ?_⟩
      have hj' : j < L.length * 2 := by
        have := (List.getElem?_eq_some_iff.1 hj).1
        rwa [pcs_length] at this
      have hi : j / 2 < L.length := by omega
      have hc := (hp (j / 2) hi).2 (j % 2) (by omega)
      rw [← pcs_get L (j / 2) (j % 2) hi (by omega), show j / 2 * 2 + j % 2 = j by omega, hj] at hc
      rw [← hc, Addr.add_lit, Addr.add_lit, show off + j / 2 * 2 + j % 2 = off + j by omega]
    · obtain ⟨i, hi, rfl⟩ := List.getElem_of_mem hp'
      exact (hp i hi).1

set_option maxRecDepth 8000 in
theorem open_pats {H : Type} {enc : TypeId × Value → H} {W : World} {b0 base : Nat} {v : Value} {d : DataW H} {p : List MemPlace} {spare : Nat → Bool} {held : Bool}
    (hv : Value.okWide Try.prog W .any b0 22 v) (h : DataW.Trod enc Try.prog W base spare held 22 v d p) (hs : ∀ b, spare b = true) :
    ∃ (a : Option Addr) (L : List PT) (c : Nat), v = .slice a L.length c ∧ RQ W a L.length L ∧ L.length ≤ c ∧ ∀ p ∈ L, p.wide := by
  obtain ⟨a, len, cap, rfl⟩ := okWide_slice Try.underlying22 hv
  obtain ⟨fuel, hf⟩ := h
  obtain ⟨a', L, c, e, h1, h2, h3⟩ := trod_pats hf hs
  simp [Value.cells] at e
  obtain ⟨rfl, rfl, rfl⟩ := e
  exact ⟨_, L, _, rfl, h1, h2, h3⟩

/-- A slice of slices of patches that is read. -/
def RR2 (w : World) (A : Option Addr) (LL : List (List PT)) : Prop :=
  (∀ L ∈ LL, ∀ p ∈ L, p.wide) ∧ (0 < LL.length → ∃ b o, A = some ⟨b, o, none⟩ ∧ b < w.heap.size ∧ ∀ k (h : k < LL.length), ∃ Ak ck, w.cell? ⟨b, o + k, none⟩ = some (.slice Ak (LL[k]).length ck) ∧ RQ w Ak (LL[k]).length LL[k] ∧ (LL[k]).length ≤ ck)
set_option maxRecDepth 8000 in
theorem open_rows {H : Type} {enc : TypeId × Value → H} {W : World} {b0 base : Nat} {v : Value} {d : DataW H} {p : List MemPlace} {spare : Nat → Bool} {held : Bool}
    (hv : Value.okWide Try.prog W .any b0 41 v) (h : DataW.Trod enc Try.prog W base spare held 41 v d p) (hs : ∀ b, spare b = true) :
    ∃ (a : Option Addr) (L : List (List PT)) (c : Nat), v = .slice a L.length c ∧ RR2 W a L ∧ L.length ≤ c := by
  obtain ⟨a, len, cap, rfl⟩ := okWide_slice Try.underlying41 hv
  obtain ⟨fuel, hf⟩ := h
  rcases Deep.open_slice1 Try.underlying41 (by kernel_rfl) hf with ⟨hcs, _⟩ | ⟨x, l, c, m, n, V, D, Pl, hcs, _, hl, hm, hmm, _, hx⟩
  · simp [Value.cells] at hcs
    obtain ⟨rfl, rfl, rfl⟩ := hcs
    exact ⟨none, [], 0, rfl, ⟨fun L hL => by simp at hL, fun h0 => by simp at h0⟩, Nat.le_refl _⟩
  · simp [Value.cells] at hcs
    obtain ⟨rfl, rfl, rfl⟩ := hcs
    have hmc : m = cap := by rw [hmm, hs]; rfl
    have hel : ∀ i, i < len → ∃ L : List PT, (∀ p ∈ L, p.wide) ∧ ∃ Ak ck, V i = .slice Ak L.length ck ∧ RQ W Ak L.length L ∧ L.length ≤ ck := by
      intro i hi
      obtain ⟨_, ht⟩ := hx i (by omega)
      obtain ⟨Ak, L, ck, e, h1, h2, h3⟩ := trod_pats ht hs
      injection e with e
      exact ⟨L, h3, Ak, ck, e, h1, h2⟩
    obtain ⟨LL, hL, hp⟩ := choose_list hel
    refine ⟨some x, LL, cap, by rw [hL], ⟨fun L hLm => ?_, fun h0 => ?_⟩, by omega⟩
    · obtain ⟨i, hi, rfl⟩ := List.getElem_of_mem hLm
      exact (hp i hi).1
    · rw [hL] at h0
      obtain ⟨hc0, _⟩ := hx 0 (by omega)
      obtain ⟨b, off, spot⟩ := x
      have hspot : spot = none := by simpa [Addr.add] using World.cell?_spot hc0
      subst hspot
      have hlt := World.block_lt_of_cell? W _ hc0
      refine ⟨b, off, rfl, by simpa [Addr.add] using hlt, fun k hk => ?_⟩
      obtain ⟨-, Ak, ck, e, h1⟩ := hp k hk
      obtain ⟨hck, _⟩ := hx k (by omega)
      rw [Addr.add_lit, e] at hck
      exact ⟨Ak, ck, hck, h1⟩
end Go.Proofs.Ytncjfljmnkfghaa

namespace Go.Proofs.Ytncjfljmnkfghaa
open Go.RowKit

/-- The document's log in the last 512 bytes of a memory of 1024. -/
def RL (w : World) (l : Nat) (x : MB) (s : MS) : Prop := RM w x 128 s.S s.T s.A ∧ Blk w l [.pointer (some ⟨x.p, 0, none⟩), .int .i64 512, .int .i64 512] ∧ ¬ x.F l
section
variable {w w' : World} {l : Nat} {x : MB} {s : MS} {F : Nat → Prop}
theorem RL.keep (h : RL w l x s) (g : Grow w w') : RL w' l x s := ⟨h.1.keep g, h.2.1.keep g, h.2.2⟩
theorem RL.turn (h : RL w l x s) (t : Turn F w w') (h1 : ∀ k, F k → ¬ x.F k) (h2 : ¬ F l) : RL w' l x s := ⟨h.1.turn t h1, h.2.1.turn t h2, h.2.2⟩
theorem RL.lenS (h : RL w l x s) : s.S.length = 1024 := h.1.lenS
/-- What a walk wants of the bytes that are seen. -/
theorem RM.eyes {S T : List UInt8} {A : List Bool} (h : RM w x 128 S T A) : ∃ L cs, Hid (L = 1024) ∧ L ≤ 1024 ∧ 1024 ≤ L ∧ L ≤ cs ∧ w.cell? ⟨x.p, 0, none⟩ = some (.slice (some ⟨x.gs, 0, none⟩) L cs) ∧ Sl w (some ⟨x.gs, 0, none⟩) L S := by
  have hl := h.lenS
  obtain ⟨L, cs, ct, ca, HL, h1, -, -, c0, -, -, -⟩ := h.look
  have e : L = 1024 := HL.out
  exact ⟨L, cs, Lib.hid e, by omega, by omega, h1, c0, by omega, by omega, h.seenRB⟩
end

set_option maxHeartbeats 2000000 in
theorem rl_keep {w : World} {l : Nat} {x : MB} {s : MS} (h : RL w l x s) {B : Option Addr} {m c : Nat} {bs : List UInt8} (hs : Sl w B m bs) (hB : 0 < m → ∀ p, B = some p → ¬ x.F p.block) (a : Int) :
    Calls Try.prog 54 #[.pointer (some ⟨l, 0, none⟩), .int .i64 a, .slice B m c] w fun e w' => e = .returned (.tuple #[]) ∧ RL w' l x (s.keep a bs) ∧ Turn x.F w w' := by
  obtain ⟨hP, hl, hlx⟩ := h
  have c0 := hl.c3.1
  have HL := Lib.hid hl
  have HLX := Lib.hid hlx
  have HP := Lib.hid hP
  have HS := Lib.hid hs
  have HB := Lib.hid hB
  have HM := Lib.hid hs.1
  clear hl hP hs hB hlx
  go_enter Try.func54, Try.ntmps54
  go_wp2_with fail
  refine (rm_storeU HP.out HS.out HB.out a).mono ?_
  rintro e w1 ⟨rfl, hP1, t1⟩
  have HP1 := Lib.hid hP1
  have HT1 := Lib.hid t1
  have HL1 := Lib.hid (HL.out.turn t1 HLX.out)
  have c1 := HL1.out.c3.1
  clear hP1 t1 c0
  go_wp2_with fail
  refine (rm_flushU HP1.out a (m : Int)).mono ?_
  rintro e w2 ⟨rfl, hP2, t2⟩
  have HP2 := Lib.hid hP2
  have HT2 := Lib.hid (HT1.out.and t2)
  have HL2 := Lib.hid (HL1.out.turn t2 HLX.out)
  have c2 := HL2.out.c3.1
  clear hP2 t2 c1
  go_wp2_with fail
  refine (rm_fence HP2.out).mono ?_
  rintro e w3 ⟨rfl, hP3, t3⟩
  have HP3 := Lib.hid hP3
  have HT3 := Lib.hid t3
  clear hP3 t3 c2
  go_wp2_with fail
  go_end0
  refine ⟨rfl, ⟨?_, HL2.out.turn HT3.out HLX.out, HLX.out⟩, HT2.out.and HT3.out⟩
  simp only [MS.keep, MS.fence, MS.flush, MS.store]
  rw [HM.out]
  exact HP3.out

set_option maxHeartbeats 4000000 in
theorem rl_end {w : World} {l : Nat} {x : MB} {s : MS} (h : RL w l x s) :
    Calls Try.prog 57 #[.pointer (some ⟨l, 0, none⟩)] w fun e w' => e = .returned (.int .i64 (lgE s.S : Nat)) ∧ Grow w w' := by
  obtain ⟨hP, hl, hlx⟩ := h
  have c0 := hl.c3.1
  have c1 := hl.c3.2.1
  have c2 := hl.c3.2.2
  obtain ⟨L, cs, HLL, hL1, hL2, hcs, d0, hsl⟩ := hP.eyes
  have HS := Lib.hid hsl
  have HG := Lib.hid (get_any s.S 512 8)
  obtain ⟨kb, hkb⟩ : ∃ kb, kb = getK s.S 512 8 := ⟨_, rfl⟩
  have HK := Lib.hid hkb
  obtain ⟨v, hV⟩ : ∃ v, v = getN s.S 512 8 := ⟨_, rfl⟩
  rw [← hV] at HG
  have HV := Lib.hid hV
  have hv0 := HG.out.1
  clear hl hP hlx hsl hV hkb
  go_enter Try.func57, Try.ntmps57
  go_wp2_with fail
  go_region_held3 (fun w' => w'.cell? ⟨l, 0, none⟩ = some (.pointer (some ⟨x.p, 0, none⟩)) ∧ w'.cell? ⟨l, 1, none⟩ = some (.int .i64 512) ∧ w'.cell? ⟨l, 2, none⟩ = some (.int .i64 512) ∧ w'.cell? ⟨x.p, 0, none⟩ = some (.slice (some ⟨x.gs, 0, none⟩) L cs)) (first | exact ⟨c0, c1, c2, d0⟩ | exact hs3) ((go_at_call 48; go_loud (refine (rget_s (HS.out.keep ((Grow.refl w).drewN 1)) (by decide) (by decide)).mono ?_; rintro e w3 ⟨rfl, hw3⟩; rw [← HV.out, ← HK.out]; have g3 : Grow w w3 := (by rw [← hw3]; exact (Grow.refl w).drewN 1); have hs3 := And.intro (g3.cell c0) (And.intro (g3.cell c1) (And.intro (g3.cell c2) (g3.cell d0))); clear hw3)))
  all_goals
    obtain ⟨k0, k1, k2, k3⟩ := hs3
    have G3 := Lib.hid g3
    clear g3 k0 k1 k3 c0 c1 c2 d0
    cases kb with
    | false =>
      have HR := Lib.hid (show lgE s.S = 0 by rw [lgE, get_no HK.out.symm]; rfl)
      go_wp2_with fail
      go_ret
      exact ⟨ret_int (by rw [HR.out]; rfl), G3.out⟩
    | true =>
    by_cases h5 : 504 < v
    · have z1 : decide (504 < v) = true := decide_eq_true h5
      have HR := Lib.hid (show lgE s.S = 0 by rw [lgE, ← HV.out, if_pos h5])
      clear h5
      go_wp2_with fail
      go_ret
      exact ⟨ret_int (by rw [HR.out]; rfl), G3.out⟩
    · have z1 : decide (504 < v) = false := decide_eq_false h5
      have HR := Lib.hid (show (lgE s.S : Int) = v by rw [lgE, ← HV.out, if_neg h5]; omega)
      clear h5
      go_wp2_with fail
      go_ret
      exact ⟨ret_int HR.out.symm, G3.out⟩

theorem rl_wipe_at {w wz : World} {l : Nat} {x : MB} {s : MS} (h : RL w l x s) (g : Grow w wz) (k c : Nat) (hk : w.heap.size ≤ k) (hs : Sl wz (some ⟨k, 0, none⟩) 8 (List.replicate 8 0)) :
    Calls Try.prog 54 #[.pointer (some ⟨l, 0, none⟩), .int .i64 512, .slice (some ⟨k, 0, none⟩) 8 c] wz fun e w' => e = .returned (.tuple #[]) ∧ RL w' l x s.wipe ∧ Turn x.F w w' := by
  refine (rl_keep (h.keep g) hs (fun _ p hp q => ?_) 512).mono ?_
  · injection hp with hp
    subst hp
    have q' : x.F k := q
    have := h.1.lt k q'
    omega
  rintro e w' ⟨rfl, h5, t5⟩
  exact ⟨rfl, h5, (Turn.grow g _).and t5⟩

set_option maxHeartbeats 2000000 in
set_option maxRecDepth 4000 in
theorem rl_clear {w : World} {l : Nat} {x : MB} {s : MS} (h : RL w l x s) :
    Calls Try.prog 65 #[.pointer (some ⟨l, 0, none⟩)] w fun e w' => e = .returned (.tuple #[]) ∧ RL w' l x s.wipe ∧ Turn x.F w w' := by
  have H := Lib.hid h
  have c1 := h.2.1.c3.2.1
  have c2 : (w.alloc (.cells zc8 5)).cell? ⟨l, 1, none⟩ = some (.int .i64 512) := cell_alloc c1
  have c3 : (w.drew.alloc (.cells zc8 5)).cell? ⟨l, 1, none⟩ = some (.int .i64 512) := cell_alloc c1
  have hmk := make8
  clear h
  go_enter Try.func65, Try.ntmps65
  go_wp2_with fail
  go_region_with (go_at_call 54; refine (rl_wipe_at H.out ?_ _ _ ?_ ?_).mono ?_; (repeat (first | exact Grow.refl _ | refine Grow.drew ?_ | refine Grow.drewN ?_ _ | refine Grow.alloc ?_ _)); (first | exact Nat.le_refl _ | simp); ((repeat (refine Sl.drew ?_)); exact Sl.at8 _ _ _ rfl); rintro e w6 ⟨rfl, h6, t6⟩)
  all_goals
    have H6 := Lib.hid h6
    have HT6 := Lib.hid t6
    clear h6 t6
    go_wp2_with fail
    go_end0
    exact ⟨rfl, H6.out, HT6.out⟩
end Go.Proofs.Ytncjfljmnkfghaa

namespace Go.Proofs.Ytncjfljmnkfghaa
open Go.RowKit

/-- 'append' at a step of a region that draws its order. -/
theorem step_appB {w : World} {ops : Array Oper} {o : Oper} {a : Act} {K : Act → World → Prop} {Q : Exit → Act → World → Prop} {E : Prop} (hgd : o.guard = none) (s x : Operand)
    (ho : o.op = .call { callee := .builtin .append, args := #[s, x], argTypes := #[24, 24] })
    (base : Nat) (v : Value) (bs : List UInt8) (hs : a.eval s = v) (hown : OB w base v bs)
    (B : Nat) (A : Option Addr) (c : Nat) (news : List UInt8) (m : Nat) (hm : m = news.length) (hx : a.eval x = .slice A m c) (hr : RB w B A news)
    (h63 : bs.length + news.length ≤ 140737488355328) (hbase : base ≤ w.heap.size)
    (h : ∀ v' w', OB w' base v' (bs ++ news) → Below base w w' → K (a.put o.dst v') w') : if Region.wanted o (yielded ops a.tmps) = true then Oper.wp Try.prog o a w K Q else E := by
  subst hm
  have hw : Region.wanted o (yielded ops a.tmps) = true := by simp [Region.wanted, hgd]
  rw [if_pos hw]
  obtain ⟨i0, hi, hz, h1, h2⟩ := info_parts byte_info
  obtain ⟨v', w', hrun, h3, h4, h5⟩ := app_any (P := Try.prog) w base 24 o.type 5 i0 _ 1 1 Try.underlying24 hi hz h1 h2 rfl (by omega) v bs.length (bvs bs) hown B A news.length c (bvs news) hr (bvs_one news) (by unfold maxLen; omega) (by omega) hbase
  unfold Oper.wp execOp
  simp only [ho, resolve, invoke, builtin, Sem.run_bind, Sem.run_pure, Result.andThen_ok, List.map_toArray, List.map_cons, List.map_nil, hs, hx, hrun]
  exact h v' w' (by unfold OB; rw [List.length_append, bvs_append]; exact h3) ((Below.refl _ _).grown h4 hbase (fun k hk => (hown.lt k hk).1))

theorem ret_pair {v : Value} {a b : Int} (h : a = b) : Ending.returned (.tuple #[v, .int .i64 a]) = .returned (.tuple #[v, .int .i64 b]) := by rw [h]
theorem slice_ne {P : Prop} [Decidable P] {A B : Option Addr} {n c : Nat} (h : ¬ P) : Value.slice (if P then A else B) n c = Value.slice B n c := by rw [if_neg h]
def ReadInv (w wr : World) (bs : List UInt8) (tv tu : Value) : Prop :=
  ∃ (k i : Nat) (R : List RW), tu = .int .i64 (k : Int) ∧ k ≤ bs.length ∧ EachLink bs k i ∧ OW wr w.heap.size tv R ∧ R.map RW.L = (rcL bs).take i ∧ R.length = i ∧ i ≤ k ∧ Grow w wr

set_option maxHeartbeats 8000000 in
set_option maxRecDepth 8000 in
theorem rl_read {w : World} {l : Nat} {x : MB} {s : MS} (h : RL w l x s) :
    Calls Try.prog 38 #[.pointer (some ⟨l, 0, none⟩)] w fun e w' => ∃ v R, e = .returned (.tuple #[v, .int .i64 (lgU s.S : Nat)]) ∧ OW w' w.heap.size v R ∧ R.map RW.L = lgL s.S ∧ Grow w w' := by
  obtain ⟨hP, hl, hlx⟩ := id h
  have c0 := hl.c3.1
  have c1 := hl.c3.2.1
  obtain ⟨L, cs, HLL, hL1, hL2, hcs, d0, hsl⟩ := hP.eyes
  have HRL := Lib.hid h
  have HLE := Lib.hid (lgE_le s.S)
  have HBL := Lib.hid (lgB_length (S := s.S) hP.lenS)
  obtain ⟨n0, hn0⟩ : ∃ n0, n0 = lgE s.S := ⟨_, rfl⟩
  rw [← hn0] at HLE HBL
  have hn504 := HLE.out
  have hsd := (hsl.drop (k := 520) (c := cs) (by omega) hcs).take (k := n0) (by omega)
  rw [if_neg (by omega), show (some (⟨x.gs, 0, none⟩ : Addr)).map (·.add 520) = some ⟨x.gs, 520, none⟩ by simp [Addr.add_lit]] at hsd
  have hbe : (s.S.drop 520).take n0 = lgB s.S := by rw [lgB, ← hn0]
  rw [hbe] at hsd
  obtain ⟨bs, hbs⟩ : ∃ bs, bs = lgB s.S := ⟨_, rfl⟩
  rw [← hbs] at hsd HBL
  have HN0 := Lib.hid hn0
  have HBS := Lib.hid hbs
  have HSD := Lib.hid hsd
  have y0 : IntKind.i64.wrap 520 = 520 := rfl
  have hne : ¬ cs = 520 := by omega
  have y1 : IntKind.i64.wrap (520 + (n0 : Int)) = 520 + (n0 : Int) := IntWalk.i64_in _ (by omega)
  have i1 : (0 : Int) ≤ 520 + (n0 : Int) := by omega
  have i2 : (520 + (n0 : Int)).toNat = 520 + n0 := by omega
  have i3 : 520 + (n0 : Int) ≤ (cs : Int) := by omega
  have i4 : (520 : Int) ≤ 520 + (n0 : Int) := by omega
  have i5 : 520 + n0 ≤ cs := by omega
  clear h hl hP hlx hn0 hsl hsd hbe hbs
  go_enter Try.func38, Try.ntmps38
  go_wp2_with fail
  go_region_held3 (fun w' => w'.cell? ⟨l, 0, none⟩ = some (.pointer (some ⟨x.p, 0, none⟩)) ∧ w'.cell? ⟨l, 1, none⟩ = some (.int .i64 512) ∧ w'.cell? ⟨x.p, 0, none⟩ = some (.slice (some ⟨x.gs, 0, none⟩) L cs)) (first | exact ⟨c0, c1, d0⟩ | exact hs3 | exact hs4) ((first
    | (go_at_call 57; go_loud (refine (rl_end (HRL.out.keep ((Grow.refl w).drewN 1))).mono ?_; rintro e w3 ⟨rfl, g3'⟩; rw [← HN0.out]; have g3 : Grow w w3 := ((Grow.refl w).drewN 1).trans g3'; have hs3 := And.intro (g3.cell c0) (And.intro (g3.cell c1) (g3.cell d0))))
    | (refine step_appB rfl (.tmp 10) (.tmp 31) rfl w3.heap.size _ [] rfl (OB.nil _ _) w3.heap.size (some ⟨x.gs, 520, none⟩) (cs - 520) bs n0 HBL.out.symm (by first | rfl | exact slice_ne hne) (HSD.out.keep g3).2.2 (by rw [HBL.out]; simp; omega) (Nat.le_refl _) ?_; intro v4 w4 q1 q2; obtain ⟨A4, c4, rfl, o4⟩ := Own.ofOB q1 n0 (by rw [List.nil_append]; exact HBL.out) (by omega); have hs4 := And.intro ((show Grow w3 w4 from q2).cell hs3.1) (And.intro ((show Grow w3 w4 from q2).cell hs3.2.1) ((show Grow w3 w4 from q2).cell hs3.2.2)); clear q1)))
  all_goals
    rw [List.nil_append] at o4
    have HO4 := Lib.hid o4
    have HG4 := Lib.hid (g3.trans (show Grow w3 w4 from q2))
    have HCAP := Lib.hid o4.cap
    have hn4 : n0 ≤ c4 := o4.cap
    clear o4 g3 q2 hs3 hs4 c0 c1 d0 i1 i2 i3 i4 i5 y0 y1 HSD hne
    go_wp2_with fail
    go_loopw [5, 6] (fun tv tu wr => ReadInv w4 wr bs tv tu) (fun _ tu _ => n0 - (intOf tu).toNat)
    case atStart => exact ⟨0, 0, [], by simp, Nat.zero_le _, EachLink.start _, OW.nil _ _, by simp, rfl, Nat.le_refl _, Grow.refl _⟩
    case round =>
      obtain ⟨k, i, R, rfl, hk, hlk, how, hRL, hRi, hik, hg⟩ := hrel
      have HLK := Lib.hid hlk
      have HOW := Lib.hid how
      have HRR := Lib.hid hRL
      have HRI := Lib.hid hRi
      have HG := Lib.hid hg
      have hk' : k ≤ n0 := by have := HBL.out; omega
      clear hk hlk how hRL hRi hg
      by_cases hpos : k < n0
      · obtain ⟨g, hA, -, -⟩ := HO4.out.row (by omega)
        subst hA
        have hsd := (HO4.out.sl.keep HG.out).drop (k := k) (c := c4) (by omega) HCAP.out
        rw [if_neg (by omega), show (some (⟨g, 0, none⟩ : Addr)).map (·.add k) = some ⟨g, 0 + k, none⟩ by simp [Addr.add_lit]] at hsd
        have HSD := Lib.hid hsd
        clear hsd
        go_wp2_with fail
        simp only [Nat.zero_add] at HSD
        refine (rl_decode HSD.out (by omega)).mono ?_
        rintro e w5 ⟨v, rfl, hop, g5⟩
        obtain ⟨E, hE⟩ : ∃ E, E = dpE (bs.drop k) := ⟨_, rfl⟩
        obtain ⟨D, hD⟩ : ∃ D, D = dpU (bs.drop k) := ⟨_, rfl⟩
        rw [← hE, ← hD]
        have HE := Lib.hid hE
        have HD := Lib.hid hD
        have HG5 := Lib.hid g5
        have HOP := Lib.hid hop
        clear hE hD g5 hop
        by_cases h0 : E = 0
        · have h0' : (E != 0) = false := by rw [bne_eq_false_iff_eq]; exact h0
          have hdz : dpE (bs.drop k) = 0 := by rw [← HE.out]; exact h0
          have hst := HLK.out.step hdz
          have hup := dpU_pos hdz
          rw [← HD.out] at hst hup
          have HST := Lib.hid hst.1
          have HNTH := Lib.hid hst.2
          have hD1 : 8 ≤ D := hup.1
          have hD2 : k + D ≤ n0 := by have := hup.2.1; rw [List.length_drop, HBL.out] at this; omega
          have HBZ := Lib.hid HG.out.size
          obtain ⟨Av, cv, rfl, -⟩ := HOP.out.form
          obtain ⟨q, hq⟩ : ∃ q, q = (dpL (bs.drop k)).length := ⟨_, rfl⟩
          rw [← hq] at HOP ⊢
          have HNE := Lib.hid (show ∀ g', (Value.slice Av q cv).ownBlock = some g' → Value.ownBlock _ ≠ some g' from fun g' q1 q2 => by
            have t1 := (World.ownsRow.lt HOW.out.1 g' q2).2
            have t2 := (World.ownsRow.lt HOP.out g' q1).1
            omega)
          have HQ := Lib.hid hq
          clear hst hup hdz h0 hq
          go_wp2_with (at_builtin; go_loud (refine wpList_appW rfl (.tmp 47) (.tmp 49) rfl w4.heap.size _ R rfl ⟨.slice Av q cv, dpL (bs.drop k)⟩ _ rfl (by first | rfl | simp) (HOW.out.keep HG5.out) (HOP.out.low HBZ.out) HNE.out (by have := HRI.out; omega) (Nat.le_trans HBZ.out HG5.out.size) ?_; intro v6 w6 r1 r2 r3))
          have X : ReadInv w4 w6 bs v6 (.int .i64 ((k + D : Nat) : Int)) :=
            ⟨k + D, i + 1, R ++ [⟨.slice Av q cv, dpL (bs.drop k)⟩], rfl, by rw [HBL.out]; exact hD2, HST.out, r1, by rw [List.map_append, HRR.out, List.take_add_one, HNTH.out]; rfl, by simp [HRI.out], by omega, (HG.out.trans HG5.out).low r3⟩
          have HX := Lib.hid X
          clear X r1 r2 r3
          go_roundw
          have e5 := wrap_k (k := k) (d := D) (by omega)
          case rel => (try rw [e5]); first | exact HX.out | ((repeat apply Exists.intro); exact HX.out) | ((repeat apply Exists.intro); refine ⟨HX.out, ?_⟩; rfl)
          case measure => (have e5 := wrap_k (k := k) (d := D) (by omega)); (try rw [e5]); simp [intOf]; omega
        · have h0' : (E != 0) = true := by rw [bne_iff_ne]; exact h0
          have hdn := HLK.out.done (by rw [← HE.out]; exact h0)
          have HDN := Lib.hid hdn
          clear hdn h0
          go_wp2_with fail
          go_ret2
          exact ⟨_, R, ret_pair (by rw [lgU, ← HBS.out, HDN.out.1]), (HOW.out.keep HG5.out).low HG4.out.size, by rw [HRR.out, lgL, ← HBS.out, List.take_of_length_le (by rw [HDN.out.2]; exact Nat.le_refl _)], (HG4.out.trans HG.out).trans HG5.out⟩
      · obtain rfl : k = n0 := by omega
        have hdn := HLK.out.done (by rw [List.length_eq_zero_iff.1 (show (bs.drop k).length = 0 by rw [List.length_drop, HBL.out]; omega), dpE_nil]; simp)
        have HDN := Lib.hid hdn
        clear hdn hpos
        go_wp2_with fail
        go_ret2
        exact ⟨_, R, ret_pair (by rw [lgU, ← HBS.out, HDN.out.1]), HOW.out.low HG4.out.size, by rw [HRR.out, lgL, ← HBS.out, List.take_of_length_le (by rw [HDN.out.2]; exact Nat.le_refl _)], HG4.out.trans HG.out⟩
end Go.Proofs.Ytncjfljmnkfghaa
