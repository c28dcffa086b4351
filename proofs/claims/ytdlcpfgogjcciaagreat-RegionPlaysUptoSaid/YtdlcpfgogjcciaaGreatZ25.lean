/- A deed of the laws, done to both. No statement of the seat is proved here. -/
import Derived.Test.YtdlcpfgogjcciaaGreatZ22
import Derived.Test.YtdlcpfgogjcciaaGreatZ23
import Derived.Test.YtdlcpfgogjcciaaGreatZ13
import Derived.Test.YtdlcpfgogjcciaaGreatZ24
import Derived.Deep.RegionHeld3
namespace Go.Proofs.YtdlcpfgogjcciaaGreat
open Go.RowKit Go.Great

theorem RI.take20 {w : World} {A : Option Addr} {n k : Nat} {K : List Int} (h : RI w A n K) (hk : k ≤ n) : RI w A k (K.take k) := by
  obtain ⟨h1, h2⟩ := h
  refine ⟨by rw [List.length_take]; omega, ?_⟩
  have := Rd.take h2 hk
  rw [Nat.mul_one] at this
  simpa [ics, List.map_take] using this
theorem RD20.setAt {w : World} {d z : Nat} {y : MB} {t : CS} (h : RD20 w d z y t) {k : Int} (hk : 1 ≤ k ∧ k ≤ 8) {v : Sd} (hv : v.ok) : w.there z ((k.toNat - 1) * 46) 46 ∧ RD20 (w.setCells z ((k.toNat - 1) * 46) v.cells) d z y { t with L := t.setSide k v } := by
  have hs := h.2.2.2.2.2.2.at hk
  have h1 := h.2.2.1
  rw [cellsL_cut hs] at h1
  have e0 : _ = (k.toNat - 1) * 46 := (take_len hs).trans (by omega)
  have k1 := h1.setMid e0 (new := v.cells) rfl
  rw [← cellsL_set hs] at k1
  have T := setCells_turn z v.cells ((k.toNat - 1) * 46) w
  exact ⟨h1.there_mid e0 (show 46 ≤ 46 by decide), h.1.turn T (fun j e => by rw [e]; exact h.2.2.2.2.1), h.2.1.turnW T h.2.2.2.2.2.1, k1, h.2.2.2.1, h.2.2.2.2.1, h.2.2.2.2.2.1, h.2.2.2.2.2.2.set hv k _ _⟩
theorem wp_callTo {P : Program} {o : Oper} {a : Act} {w : World} {K : Act → World → Prop} {Q : Exit → Act → World → Prop} (d : Option Tmp) (hd : o.dst = d) (f : FuncId) (args : Array Value) (hrun : (execOp a.eval o).run P w = .ok (.enter f args) w)
    (R : Ending → World → Prop) (hc : Calls P f args w R) (hp : ∀ e w', R e w' → ∃ v, e = .returned v) (h : ∀ v w', R (.returned v) w' → K (a.put d v) w') : o.wp P a w K Q := by
  subst hd
  unfold Oper.wp
  rw [hrun, Oper.upon_enter]
  refine hc.mono fun e w'' hh => ?_
  obtain ⟨v, rfl⟩ := hp _ _ hh
  exact h v w'' hh
/-- A block that is none of the pair's. -/
structure Far (c d z pb : Nat) (x y : MB) (W : World) (u : Nat) : Prop where
  x : ¬ x.F u
  y : ¬ y.F u
  c : ¬ u = c
  d : ¬ u = d
  z : ¬ u = z
  p : ¬ u = pb
  w : W.heap.size ≤ u
theorem far20 {W w : World} {pb c d z u : Nat} {x y : MB} {s t : CS} (h : P20 W w pb c d z x y s t) (hu : w.heap.size ≤ u) : Far c d z pb x y W u :=
  ⟨fun e => by have := h.cd.1.lt _ e; omega, fun e => by have := h.rd.1.lt _ e; omega, by have := h.cd.2.1.1.1; omega, by have := h.rd.2.1.1.1; omega, by have := h.rd.2.2.1.1.1; omega, by have := h.row.1.1; omega, by have := h.grow.size; omega⟩
theorem P20.far {W w w' : World} {pb c d z u : Nat} {x y : MB} {s t : CS} (h : P20 W w pb c d z x y s t) (f : Far c d z pb x y W u) (T : Turn (fun k => k = u) w w') : P20 W w' pb c d z x y s t :=
  { h with cd := h.cd.turn T (fun k e => by rw [e]; exact f.x) (fun e => f.c e.symm), rd := h.rd.turn T (fun k e => by rw [e]; exact f.y) (fun e => f.d e.symm) (fun e => f.z e.symm),
           row := h.row.turnW T (fun e => f.p e.symm), grow := h.grow.low (T.low (fun i e => by rw [e]; exact f.w) h.grow.size) }
structure Dq where
  p : PK
  set : Bool
  crash : Bool
  pk : List Int
  A : Option Addr
  ca : Nat
  Q : Option Addr
  cq : Nat
def Dq.nv (e : Dq) : Value := .slice e.A e.p.names.length e.ca
def Dq.cells (e : Dq) : List Value := e.p.cells e.nv ++ [.bool e.set, .bool e.crash, .slice e.Q e.pk.length e.cq]
structure Dq.ok (e : Dq) (W : World) : Prop where
  p : e.p.ok
  names : RS W e.A e.p.names.length e.p.names
  picks : RI W e.Q e.pk.length e.pk
  cap : e.pk.length ≤ e.cq
  small : ∀ n ∈ e.pk, -9223372036854775808 ≤ n ∧ n ≤ 9223372036854775807
def crashS (m : MM) (pk : List Int) : List UInt8 := mixL m.S m.T (crashB (dirtyL m.S m.T 2896) pk (dirtyL m.S m.T 2896).length)
def MM.crash (m : MM) (pk : List Int) : MM := ⟨crashS m pk, crashS m pk, List.replicate 2896 false⟩
def stepD (s : CS) (e : Dq) : CS := if e.crash = true then { s with m := s.m.crash (e.pk.take 200) } else if e.set = true then setP s e.p.client e.p.epoch else (doP s (cutP e.p)).2.2
theorem stepD_ok {s : CS} {e : Dq} {W : World} (h : s.ok) (he : e.ok W) : (stepD s e).ok := by
  unfold stepD
  split
  · exact ⟨h.len, h.sides⟩
  split
  · exact setP_ok h he.p.epoch
  · exact (doP_ok h (cutP_ok he.p)).2.2
theorem one_deed (e : Dq) : e.cells.length = 46 := rfl
theorem RS.far {W : World} {A : Option Addr} {n : Nat} {l : List ByteArray} (h : RS W A n l) : 0 < n → ∀ q, A = some q → q.block < W.heap.size := by
  intro hn q hq
  obtain ⟨b, o, h1, h2, -⟩ := h.2.2 hn
  rw [h1] at hq
  injection hq with hq
  subst hq
  exact h2
theorem RI.far {W : World} {A : Option Addr} {n : Nat} {l : List Int} (h : RI W A n l) : 0 < n → ∀ q, A = some q → q.block < W.heap.size := by
  intro hn q hq
  obtain ⟨b, o, h1, h2, -⟩ := h.2.2 hn
  rw [h1] at hq
  injection hq with hq
  subst hq
  exact h2

def AnsB (r : Ending) (s t : CS) : Prop := ∃ b, r = .returned (.bool b) ∧ (s = t → b = true)
/-- The blocks of a pair, but for its own row. -/
def Foot (c d z : Nat) (x y : MB) (k : Nat) : Prop := x.F k ∨ y.F k ∨ k = c ∨ k = d ∨ k = z
/-- The pair; of what was there at V only its own blocks have turned. -/
structure PT (V : World) (x0 : MB) (W w : World) (pb c d z : Nat) (x y : MB) (s t : CS) : Prop extends P20 W w pb c d z x y s t where
  turn : Turn (Foot c d z x0 y) V w
  news : ∀ k, x.F k → x0.F k ∨ V.heap.size ≤ k
structure FarT (V : World) (c d z pb : Nat) (x y : MB) (W : World) (u : Nat) : Prop extends Far c d z pb x y W u where
  v : V.heap.size ≤ u
section
variable {V W w w' : World} {pb c d z : Nat} {x0 x y : MB} {s t : CS}
theorem PT.start (h : P20 W w pb c d z x y s t) (G : Grow w w') : PT w x W w' pb c d z x y s t := { h.keep G with turn := Turn.grow G _, news := fun _ e => .inl e }
theorem PT.keep (h : PT V x0 W w pb c d z x y s t) (G : Grow w w') : PT V x0 W w' pb c d z x y s t := { h.toP20.keep G with turn := h.turn.andGrow G, news := h.news }
theorem PT.card (h : PT V x W w pb c d z x y s t) {s' : CS} (k : CD w' c x s') (T : Turn (fun k => x.F k ∨ k = c) w w') : PT V x W w' pb c d z x y s' t :=
  { h.toP20.card k T with turn := h.turn.and (T.mono fun _ e => e.elim .inl (fun e => .inr (.inr (.inl e)))), news := h.news }
theorem PT.doc (h : PT V x0 W w pb c d z x y s t) {t' : CS} (k : RD20 w' d z y t') (T : Turn (fun k => y.F k ∨ k = d ∨ k = z) w w') : PT V x0 W w' pb c d z x y s t' :=
  { h.toP20.doc k T with turn := h.turn.and (T.mono fun _ e => e.elim (fun e => .inr (.inl e)) (fun e => .inr (.inr (.inr e)))), news := h.news }
theorem PT.crash (h : PT V x W w pb c d z x y s t) {g' : Nat} {m : MM} (hg : w.heap.size ≤ g') (k : PM w' ⟨x.p, g', x.gt, x.b⟩ 2896 m.S m.T m.A) (T : Turn x.F w w') : PT V x W w' pb c d z ⟨x.p, g', x.gt, x.b⟩ y { s with m := m } t :=
  { h.toP20.crash hg k T with
    turn := h.turn.and (T.mono fun _ e => .inl e)
    news := fun j e => by
      have := h.turn.size
      rcases e with e | e | e | e
      · exact .inl (.inl e)
      · exact .inr (by have e' : j = g' := e; omega)
      · exact .inl (.inr (.inr (.inl e)))
      · exact .inl (.inr (.inr (.inr e))) }
theorem PT.far {u : Nat} (h : PT V x0 W w pb c d z x y s t) (f : FarT V c d z pb x y W u) (T : Turn (fun k => k = u) w w') : PT V x0 W w' pb c d z x y s t :=
  { h.toP20.far f.toFar T with turn := h.turn.trans T (fun i e => .inr (by have e' : i = u := e; have := f.v; omega)), news := h.news }
theorem farT {u : Nat} (h : PT V x0 W w pb c d z x y s t) (hu : w.heap.size ≤ u) : FarT V c d z pb x y W u := { far20 h.toP20 hu with v := by have := h.turn.size; omega }
/-- What is none of the pair's stays so, and stays as it was. -/
theorem PT.far' {u : Nat} (h : PT V x0 W w pb c d z x y s t) (f : Far c d z pb x0 y W u) (hu : u < V.heap.size) : Far c d z pb x y W u := { f with x := fun e => (h.news _ e).elim f.x (fun e => by omega) }
theorem Far.foot {u : Nat} (f : Far c d z pb x y W u) : ¬ Foot c d z x y u := fun e => e.elim f.x (fun e => e.elim f.y (fun e => e.elim f.c (fun e => e.elim f.d f.z)))
theorem PT.row' {u : Nat} {cs : List Value} (h : PT V x0 W w pb c d z x y s t) (f : Far c d z pb x0 y W u) (r : Row V u cs) : Row w u cs := r.turnW h.turn f.foot
end
set_option maxHeartbeats 16000000 in
set_option maxRecDepth 8000 in
theorem does20T {W w : World} {pb c d z : Nat} {x y : MB} {s t : CS} (h : P20 W w pb c d z x y s t) {e : Dq} (he : e.ok W) :
    Calls Tryz.prog 7 #[.pointer (some ⟨pb, 0, none⟩), .agg e.cells.toArray] w fun r w' => AnsB r s t ∧ ∃ x', PT w x W w' pb c d z x' y (stepD s e) (stepD t e) := by
  have HE := Lib.hid he
  have hbx := Row.new w 42 e.cells _ rfl
  have ga := (Grow.refl w).alloc (.cells e.cells.toArray 42)
  obtain ⟨w1, hw1⟩ : ∃ u, u = w.alloc (.cells e.cells.toArray 42) := ⟨_, rfl⟩
  obtain ⟨bx, hb⟩ : ∃ u, u = w.heap.size := ⟨_, rfl⟩
  rw [← hw1] at hbx ga
  rw [← hb] at hbx
  have hbW : W.heap.size ≤ bx := by have := h.grow.size; omega
  have hbpb : ¬ bx = pb := by have := h.row.1.1; omega
  have hbc : ¬ bx = c := by have := h.cd.2.1.1.1; omega
  have hbd : ¬ bx = d := by have := h.rd.2.1.1.1; omega
  have hbz : ¬ bx = z := by have := h.rd.2.2.1.1.1; omega
  have hbX : ¬ x.F bx := fun q => by have := h.cd.1.lt _ q; omega
  have hbY : ¬ y.F bx := fun q => by have := h.rd.1.lt _ q; omega
  have HP := Lib.hid (PT.start h ga)
  have hbV : w.heap.size ≤ bx := by omega
  have HB := Lib.hid hbx
  have HGA := Lib.hid ga
  have HW1 := Lib.hid hw1
  clear h he hbx ga hw1
  go_enter Tryz.func7, Tryz.ntmps7
  go_upto_region 0 with (fail)
  refine wp_region_list ?_
  refine wpList_boxTo rfl 42 (.tmp 1) rfl (some 3) rfl bx hb.symm e.cells.toArray rfl ?_
  rw [← HW1.out]
  clear HW1 hb
  go_upto_region 1 with (fail)
  refine wp_region_list ?_
  refine wpList_runTo rfl (some 11) rfl (.pointer (some ⟨bx, 0, none⟩)) w1 (by first | (go_simp; done) | rfl) ?_
  refine wpList_loadMid rfl 39 (.tmp 11) rfl (some 12) rfl bx 0 (by first | (go_simp; done) | rfl) (e.p.cells e.nv) _ (range_sub (h := HB.out.1.range) (a := []) (b := e.p.cells e.nv) (c := [.bool e.set, .bool e.crash, .slice e.Q e.pk.length e.cq]) rfl) Tryz.underlying39 rfl pk_size ?_
  refine wpList_callC rfl (some 13) rfl 13 #[.agg (e.p.cells e.nv).toArray] (by go_simp) _ (cut20 e.p) (fun r w' k => ⟨_, k.1⟩) ?_
  rintro v w2 ⟨he, g2⟩
  obtain rfl : v = .agg ((cutP e.p).cells e.nv).toArray := by injection he
  clear he
  have hq0 := Row.new w2 39 zP #[.int .i64 0, .int .i64 0, .int .i64 0, .int .i64 0, .int .i64 0, .int .i64 0, .int .i64 0, .string ⟨#[]⟩, .int .i64 0, .int .i64 0, .int .i64 0, .string ⟨#[]⟩, .string ⟨#[]⟩, .int .i64 0, .int .i64 0, .int .i64 0, .int .i64 0, .string ⟨#[]⟩, .int .i64 0, .int .i64 0, .int .i64 0, .int .i64 0, .string ⟨#[]⟩, .slice none 0 0, .int .i64 0, .int .i64 0, .int .i64 0, .int .i64 0, .int .i64 0, .int .i64 0, .int .i64 0, .int .i64 0, .int .i64 0, .int .i64 0, .int .i64 0, .int .i64 0, .int .i64 0, .int .i64 0, .int .i64 0, .int .i64 0, .int .i64 0, .int .i64 0, .int .i64 0] rfl
  have gq := (Grow.refl w2).alloc (.cells #[.int .i64 0, .int .i64 0, .int .i64 0, .int .i64 0, .int .i64 0, .int .i64 0, .int .i64 0, .string ⟨#[]⟩, .int .i64 0, .int .i64 0, .int .i64 0, .string ⟨#[]⟩, .string ⟨#[]⟩, .int .i64 0, .int .i64 0, .int .i64 0, .int .i64 0, .string ⟨#[]⟩, .int .i64 0, .int .i64 0, .int .i64 0, .int .i64 0, .string ⟨#[]⟩, .slice none 0 0, .int .i64 0, .int .i64 0, .int .i64 0, .int .i64 0, .int .i64 0, .int .i64 0, .int .i64 0, .int .i64 0, .int .i64 0, .int .i64 0, .int .i64 0, .int .i64 0, .int .i64 0, .int .i64 0, .int .i64 0, .int .i64 0, .int .i64 0, .int .i64 0, .int .i64 0] 39)
  refine wpList_allocTo rfl (some 5) rfl (.pointer (some ⟨w2.heap.size, 0, none⟩)) (.cells #[.int .i64 0, .int .i64 0, .int .i64 0, .int .i64 0, .int .i64 0, .int .i64 0, .int .i64 0, .string ⟨#[]⟩, .int .i64 0, .int .i64 0, .int .i64 0, .string ⟨#[]⟩, .string ⟨#[]⟩, .int .i64 0, .int .i64 0, .int .i64 0, .int .i64 0, .string ⟨#[]⟩, .int .i64 0, .int .i64 0, .int .i64 0, .int .i64 0, .string ⟨#[]⟩, .slice none 0 0, .int .i64 0, .int .i64 0, .int .i64 0, .int .i64 0, .int .i64 0, .int .i64 0, .int .i64 0, .int .i64 0, .int .i64 0, .int .i64 0, .int .i64 0, .int .i64 0, .int .i64 0, .int .i64 0, .int .i64 0, .int .i64 0, .int .i64 0, .int .i64 0, .int .i64 0] 39) (by kernel_rfl) ?_
  obtain ⟨w3, hw3⟩ : ∃ u, u = w2.alloc (.cells #[.int .i64 0, .int .i64 0, .int .i64 0, .int .i64 0, .int .i64 0, .int .i64 0, .int .i64 0, .string ⟨#[]⟩, .int .i64 0, .int .i64 0, .int .i64 0, .string ⟨#[]⟩, .string ⟨#[]⟩, .int .i64 0, .int .i64 0, .int .i64 0, .int .i64 0, .string ⟨#[]⟩, .int .i64 0, .int .i64 0, .int .i64 0, .int .i64 0, .string ⟨#[]⟩, .slice none 0 0, .int .i64 0, .int .i64 0, .int .i64 0, .int .i64 0, .int .i64 0, .int .i64 0, .int .i64 0, .int .i64 0, .int .i64 0, .int .i64 0, .int .i64 0, .int .i64 0, .int .i64 0, .int .i64 0, .int .i64 0, .int .i64 0, .int .i64 0, .int .i64 0, .int .i64 0] 39) := ⟨_, rfl⟩
  obtain ⟨q, hq⟩ : ∃ u, u = w2.heap.size := ⟨_, rfl⟩
  rw [← hw3] at hq0 gq ⊢
  rw [← hq] at hq0 ⊢
  refine wpList_storeRow rfl 39 (.tmp 5) (.tmp 13) rfl rfl q (by first | (go_simp; done) | rfl) ((cutP e.p).cells e.nv) zP (by first | (go_simp; done) | rfl) hq0 rfl pk_size (PK.one _ rfl) ?_
  intro w4 r4 t4 z4
  have hqb : ¬ q = bx := by have := HB.out.1.1; have := g2.size; omega
  have hqw : w1.heap.size ≤ q := by have := g2.size; omega
  have HB4 := Lib.hid ((HB.out.keep (g2.trans gq)).turnW t4 (fun k => hqb k.symm))
  have HQ4 := Lib.hid r4
  have HP4 := Lib.hid (HP.out.keep ((g2.trans gq).low (t4.low (B := w1.heap.size) (fun i k => by have k' : i = q := k; omega) (g2.trans gq).size)))
  have hqX : ¬ x.F q := fun k => by have := HP.out.cd.1.lt _ k; omega
  have hqY : ¬ y.F q := fun k => by have := HP.out.rd.1.lt _ k; omega
  have hqc : ¬ q = c := by have := HP.out.cd.2.1.1.1; omega
  have hqd : ¬ q = d := by have := HP.out.rd.2.1.1.1; omega
  have hqz : ¬ q = z := by have := HP.out.rd.2.2.1.1.1; omega
  have hqpb : ¬ q = pb := by have := HP.out.row.1.1; omega
  clear r4 t4 z4 hq0 gq hw3 hq g2 HB HP hqw
  have c44 : w4.cell? ⟨bx, 44, none⟩ = some (.bool e.crash) := HB4.out.1.2 44 _ rfl
  obtain ⟨cr, hcr⟩ : ∃ u, u = e.crash := ⟨_, rfl⟩
  rw [← hcr] at c44
  have HCR := Lib.hid hcr
  clear hcr
  cases cr with
  | true =>
    have HST := Lib.hid (show stepD s e = { s with m := s.m.crash (e.pk.take 200) } ∧ stepD t e = { t with m := t.m.crash (e.pk.take 200) } by unfold stepD; exact ⟨if_pos HCR.out.symm, if_pos HCR.out.symm⟩)
    have c45 : w4.cell? ⟨bx, 45, none⟩ = some (.slice e.Q e.pk.length e.cq) := HB4.out.1.2 45 _ rfl
    have f45 := HB4.out.2 45 (show 45 < 46 by decide)
    have HCP := Lib.hid HE.out.cap
    obtain ⟨Q, hQ⟩ : ∃ u, u = e.Q := ⟨_, rfl⟩
    obtain ⟨cq, hcq⟩ : ∃ u, u = e.cq := ⟨_, rfl⟩
    obtain ⟨pl, hpl⟩ : ∃ u, u = e.pk.length := ⟨_, rfl⟩
    have HPI := Lib.hid HE.out.picks
    rw [← hQ, ← hcq, ← hpl] at c45
    rw [← hpl, ← hcq] at HCP
    rw [← hQ, ← hpl] at HPI
    have HPL := Lib.hid hpl
    clear hQ hcq hpl
    by_cases h2 : 200 < pl
    · have z1 : decide (200 < pl) = true := decide_eq_true h2
      have z2 : decide ((200 : Int) < (pl : Int)) = true := decide_eq_true (by omega)
      have z3 : 200 ≤ cq := by have := HCP.out; omega
      have HRI := Lib.hid (HPI.out.take20 (k := 200) (by omega))
      go_upto_region 5 with (fail)
      have t5 : Turn (fun k => k = bx) w4 (w4.setCell ⟨bx, 45, none⟩ (.slice Q 200 cq)) := Turn.setCell (F := fun k => k = bx) w4 (p := ⟨bx, 45, none⟩) rfl _
      obtain ⟨w5, hw5⟩ : ∃ u, u = w4.setCell ⟨bx, 45, none⟩ (.slice Q 200 cq) := ⟨_, rfl⟩
      have d45 : w5.cell? ⟨bx, 45, none⟩ = some (.slice Q 200 cq) := by rw [hw5]; exact cell_set_eq c45
      rw [← hw5] at t5 ⊢
      clear hw5 c45 f45 z1 z2 z3 c44
      have HP5 := Lib.hid (show PT w x W w5 pb c d z x y s t from
        { HP4.out with cd := HP4.out.cd.turn t5 (fun k q => by rw [q]; exact hbX) (fun q => hbc q.symm), rd := HP4.out.rd.turn t5 (fun k q => by rw [q]; exact hbY) (fun q => hbd q.symm) (fun q => hbz q.symm),
                        turn := HP4.out.turn.trans t5 (fun i q => .inr (by have q' : i = bx := q; omega)), row := HP4.out.row.turnW t5 (fun q => hbpb q.symm), grow := HP4.out.grow.low (t5.low (fun i q => by have q' : i = bx := q; omega) HP4.out.grow.size) })
      have HRW := Lib.hid (HRI.out.keep HP5.out.grow)
      have HNX := Lib.hid (show 0 < 200 → ∀ p, Q = some p → ¬ x.F p.block from fun h0 p hp q => by have := HRI.out.far h0 p hp; have := HP5.out.xW _ q; omega)
      have HNY := Lib.hid (show 0 < 200 → ∀ p, Q = some p → ¬ y.F p.block from fun h0 p hp q => by have := HRI.out.far h0 p hp; have := HP5.out.yW _ q; omega)
      have HSM := Lib.hid (show ∀ n ∈ e.pk.take 200, -9223372036854775808 ≤ n ∧ n ≤ 9223372036854775807 from fun n hn => HE.out.small n (List.mem_of_mem_take hn))
      have p0 := HP5.out.row.1.2 0 _ rfl
      have hsS := And.intro p0 d45
      clear t5 HRI HP4 HB4 HQ4
      go_region_held3 (fun w' => w'.cell? ⟨pb, 0, none⟩ = some (.pointer (some ⟨x.p, 0, none⟩)) ∧ w'.cell? ⟨bx, 45, none⟩ = some (.slice Q 200 cq)) (first | exact hsS | exact hs6) ((go_at_call 22; go_loud (refine (pm_crash (HP5.out.cd.1.keep ?_) (HRW.out.keep ?_) HNX.out).mono ?_; (repeat (first | exact Grow.refl _ | refine Grow.drew ?_ | refine Grow.drewN ?_ _)); rintro r w6 ⟨rfl, g', hg', h6, t6⟩; have T6 : Turn x.F w5 w6 := (Turn.grow (by (repeat (first | exact Grow.refl _ | refine Grow.drew ?_ | refine Grow.drewN ?_ _))) x.F).and t6; have hg6 : w5.heap.size ≤ g' := Nat.le_trans (Grow.size (show Grow w5 _ from by (repeat (first | exact Grow.refl _ | refine Grow.drew ?_ | refine Grow.drewN ?_ _)))) hg'; have hs6 := And.intro (T6.cellW p0 HP5.out.xp) (T6.cellW d45 hbX))))
      all_goals
        have HP6 := Lib.hid (HP5.out.crash (m := s.m.crash (e.pk.take 200)) hg6 h6 T6)
        have HRW6 := Lib.hid (HRW.out.turn T6 HNX.out)
        have d6 := hs6.2
        have p2 : w6.cell? ⟨pb, 2, none⟩ = some (.pointer (some ⟨y.p, 0, none⟩)) := HP6.out.row.1.2 2 _ rfl
        clear h6 t6 T6 hs6 hsS p0 d45 hg6 hg' HP5 HRW
        go_upto_region 6 with (fail)
        have hsS := And.intro p2 d6
        go_region_held3 (fun w' => w'.cell? ⟨pb, 2, none⟩ = some (.pointer (some ⟨y.p, 0, none⟩)) ∧ w'.cell? ⟨bx, 45, none⟩ = some (.slice Q 200 cq)) (first | exact hsS | exact hs7) ((go_at_call 23; go_loud (refine (rm_crash (HP6.out.rd.1.keep ?_) (HRW6.out.keep ?_) HNY.out HSM.out).mono ?_; (repeat (first | exact Grow.refl _ | refine Grow.drew ?_ | refine Grow.drewN ?_ _)); rintro r w7 ⟨rfl, h7, t7⟩; have T7 : Turn y.F w6 w7 := (Turn.grow (by (repeat (first | exact Grow.refl _ | refine Grow.drew ?_ | refine Grow.drewN ?_ _))) y.F).and t7; have hs7 := And.intro (T7.cellW p2 HP6.out.yp) (T7.cellW d6 hbY))))
        all_goals
          have HP7 := Lib.hid (HP6.out.doc (t' := { t with m := t.m.crash (e.pk.take 200) }) ⟨h7, HP6.out.rd.2.1.turnW T7 HP6.out.rd.2.2.2.1, HP6.out.rd.2.2.1.turnW T7 HP6.out.rd.2.2.2.2.1, HP6.out.rd.2.2.2.1, HP6.out.rd.2.2.2.2.1, HP6.out.rd.2.2.2.2.2.1, ⟨HP6.out.rd.2.2.2.2.2.2.len, HP6.out.rd.2.2.2.2.2.2.sides⟩⟩ (T7.mono fun k q => .inl q))
          clear h7 t7 T7 hs7 hsS p2 d6
          go_wp2_with fail
          go_ret
          rw [HST.out.1, HST.out.2]
          exact ⟨⟨true, by first | rfl | simp, fun _ => rfl⟩, _, HP7.out⟩
    · have z1 : decide (200 < pl) = false := decide_eq_false h2
      have z2 : decide ((200 : Int) < (pl : Int)) = false := decide_eq_false (by omega)
      have HRI := Lib.hid (show RI W Q pl (e.pk.take 200) by rw [List.take_of_length_le (by have := HPL.out; omega)]; exact HPI.out)
      go_upto_region 5 with (fail)
      obtain ⟨w5, hw5⟩ : ∃ u, u = w4 := ⟨_, rfl⟩
      have t5 : Turn (fun k => k = bx) w4 w5 := by rw [hw5]; exact Turn.refl _ _
      have d45 : w5.cell? ⟨bx, 45, none⟩ = some (.slice Q pl cq) := by rw [hw5]; exact c45
      rw [← hw5]
      clear hw5 c45 f45 z1 z2 c44
      have HP5 := Lib.hid (show PT w x W w5 pb c d z x y s t from
        { HP4.out with cd := HP4.out.cd.turn t5 (fun k q => by rw [q]; exact hbX) (fun q => hbc q.symm), rd := HP4.out.rd.turn t5 (fun k q => by rw [q]; exact hbY) (fun q => hbd q.symm) (fun q => hbz q.symm),
                        turn := HP4.out.turn.trans t5 (fun i q => .inr (by have q' : i = bx := q; omega)), row := HP4.out.row.turnW t5 (fun q => hbpb q.symm), grow := HP4.out.grow.low (t5.low (fun i q => by have q' : i = bx := q; omega) HP4.out.grow.size) })
      have HRW := Lib.hid (HRI.out.keep HP5.out.grow)
      have HNX := Lib.hid (show 0 < pl → ∀ p, Q = some p → ¬ x.F p.block from fun h0 p hp q => by have := HRI.out.far h0 p hp; have := HP5.out.xW _ q; omega)
      have HNY := Lib.hid (show 0 < pl → ∀ p, Q = some p → ¬ y.F p.block from fun h0 p hp q => by have := HRI.out.far h0 p hp; have := HP5.out.yW _ q; omega)
      have HSM := Lib.hid (show ∀ n ∈ e.pk.take 200, -9223372036854775808 ≤ n ∧ n ≤ 9223372036854775807 from fun n hn => HE.out.small n (List.mem_of_mem_take hn))
      have p0 := HP5.out.row.1.2 0 _ rfl
      have hsS := And.intro p0 d45
      clear t5 HRI HP4 HB4 HQ4
      go_region_held3 (fun w' => w'.cell? ⟨pb, 0, none⟩ = some (.pointer (some ⟨x.p, 0, none⟩)) ∧ w'.cell? ⟨bx, 45, none⟩ = some (.slice Q pl cq)) (first | exact hsS | exact hs6) ((go_at_call 22; go_loud (refine (pm_crash (HP5.out.cd.1.keep ?_) (HRW.out.keep ?_) HNX.out).mono ?_; (repeat (first | exact Grow.refl _ | refine Grow.drew ?_ | refine Grow.drewN ?_ _)); rintro r w6 ⟨rfl, g', hg', h6, t6⟩; have T6 : Turn x.F w5 w6 := (Turn.grow (by (repeat (first | exact Grow.refl _ | refine Grow.drew ?_ | refine Grow.drewN ?_ _))) x.F).and t6; have hg6 : w5.heap.size ≤ g' := Nat.le_trans (Grow.size (show Grow w5 _ from by (repeat (first | exact Grow.refl _ | refine Grow.drew ?_ | refine Grow.drewN ?_ _)))) hg'; have hs6 := And.intro (T6.cellW p0 HP5.out.xp) (T6.cellW d45 hbX))))
      all_goals
        have HP6 := Lib.hid (HP5.out.crash (m := s.m.crash (e.pk.take 200)) hg6 h6 T6)
        have HRW6 := Lib.hid (HRW.out.turn T6 HNX.out)
        have d6 := hs6.2
        have p2 : w6.cell? ⟨pb, 2, none⟩ = some (.pointer (some ⟨y.p, 0, none⟩)) := HP6.out.row.1.2 2 _ rfl
        clear h6 t6 T6 hs6 hsS p0 d45 hg6 hg' HP5 HRW
        go_upto_region 6 with (fail)
        have hsS := And.intro p2 d6
        go_region_held3 (fun w' => w'.cell? ⟨pb, 2, none⟩ = some (.pointer (some ⟨y.p, 0, none⟩)) ∧ w'.cell? ⟨bx, 45, none⟩ = some (.slice Q pl cq)) (first | exact hsS | exact hs7) ((go_at_call 23; go_loud (refine (rm_crash (HP6.out.rd.1.keep ?_) (HRW6.out.keep ?_) HNY.out HSM.out).mono ?_; (repeat (first | exact Grow.refl _ | refine Grow.drew ?_ | refine Grow.drewN ?_ _)); rintro r w7 ⟨rfl, h7, t7⟩; have T7 : Turn y.F w6 w7 := (Turn.grow (by (repeat (first | exact Grow.refl _ | refine Grow.drew ?_ | refine Grow.drewN ?_ _))) y.F).and t7; have hs7 := And.intro (T7.cellW p2 HP6.out.yp) (T7.cellW d6 hbY))))
        all_goals
          have HP7 := Lib.hid (HP6.out.doc (t' := { t with m := t.m.crash (e.pk.take 200) }) ⟨h7, HP6.out.rd.2.1.turnW T7 HP6.out.rd.2.2.2.1, HP6.out.rd.2.2.1.turnW T7 HP6.out.rd.2.2.2.2.1, HP6.out.rd.2.2.2.1, HP6.out.rd.2.2.2.2.1, HP6.out.rd.2.2.2.2.2.1, ⟨HP6.out.rd.2.2.2.2.2.2.len, HP6.out.rd.2.2.2.2.2.2.sides⟩⟩ (T7.mono fun k q => .inl q))
          clear h7 t7 T7 hs7 hsS p2 d6
          go_wp2_with fail
          go_ret
          rw [HST.out.1, HST.out.2]
          exact ⟨⟨true, by first | rfl | simp, fun _ => rfl⟩, _, HP7.out⟩
  | false =>
    have c43 : w4.cell? ⟨bx, 43, none⟩ = some (.bool e.set) := HB4.out.1.2 43 _ rfl
    obtain ⟨st, hst⟩ : ∃ u, u = e.set := ⟨_, rfl⟩
    rw [← hst] at c43
    have HSE := Lib.hid hst
    clear hst
    cases st with
    | true =>
      have HST := Lib.hid (show stepD s e = setP s e.p.client e.p.epoch ∧ stepD t e = setP t e.p.client e.p.epoch by unfold stepD; exact ⟨by rw [if_neg (by rw [← HCR.out]; decide), if_pos HSE.out.symm], by rw [if_neg (by rw [← HCR.out]; decide), if_pos HSE.out.symm]⟩)
      have HEP := Lib.hid HE.out.p.epoch
      have HKP := Lib.hid HE.out.p.client
      obtain ⟨cl, hcl⟩ : ∃ u, u = e.p.client := ⟨_, rfl⟩
      obtain ⟨ep, hep⟩ : ∃ u, u = e.p.epoch := ⟨_, rfl⟩
      have q1 : w4.cell? ⟨q, 1, none⟩ = some (.int .i64 cl) := by rw [hcl]; exact HQ4.out.1.2 1 _ rfl
      have q2 : w4.cell? ⟨q, 2, none⟩ = some (.int .i64 ep) := by rw [hep]; exact HQ4.out.1.2 2 _ rfl
      rw [← hcl, ← hep] at HST
      rw [← hep] at HEP
      rw [← hcl] at HKP
      have p1 := HP4.out.row.1.2 1 _ rfl
      clear hcl hep
      go_upto_region 9 with (fail)
      have hsS := And.intro p1 (And.intro q1 q2)
      clear c43 c44
      go_region_held3 (fun w' => w'.cell? ⟨pb, 1, none⟩ = some (.pointer (some ⟨c, 0, none⟩)) ∧ w'.cell? ⟨q, 1, none⟩ = some (.int .i64 cl) ∧ w'.cell? ⟨q, 2, none⟩ = some (.int .i64 ep)) (first | exact hsS | exact hs5) ((go_at_call 24; go_loud (refine (card_set (HP4.out.cd.keep ?_) cl ep HEP.out).mono ?_; (repeat (first | exact Grow.refl _ | refine Grow.drew ?_ | refine Grow.drewN ?_ _)); rintro r w5 ⟨rfl, h5, t5⟩; have T5 : Turn (fun j => j = c) w4 w5 := (Turn.grow (by (repeat (first | exact Grow.refl _ | refine Grow.drew ?_ | refine Grow.drewN ?_ _))) _).and t5; have hs5 := And.intro (T5.cellW p1 (fun k => HP4.out.cp k.symm)) (And.intro (T5.cellW q1 hqc) (T5.cellW q2 hqc)))))
      all_goals
        have HP5 := Lib.hid (HP4.out.card h5 (T5.mono fun k e => .inr e))
        have x1 := hs5.2.1
        have x2 := hs5.2.2
        clear h5 t5 T5 hs5 hsS p1 q1 q2 HP4 HQ4 HB4
        by_cases hk : 1 ≤ cl ∧ cl ≤ 8
        · have hv : ({ ep := ep } : Sd).ok := ⟨HEP.out, zero_i64, zero_ok, rfl⟩
          have HSP := Lib.hid (show setP t cl ep = { t with L := t.setSide cl { ep := ep } } by unfold setP; rw [if_pos hk])
          have d0 : decide (1 ≤ cl) = true := decide_eq_true hk.1
          have d1 : decide (cl ≤ 8) = true := decide_eq_true hk.2
          have b0 : 0 ≤ cl - 1 := by omega
          have b1 : cl - 1 < 8 := by omega
          have b2 : (cl - 1).toNat < 8 := by omega
          have HSA := Lib.hid ((HP5.out.rd.keep ((Grow.refl w5).drew)).setAt hk hv)
          have e6 : IntKind.i64.wrap (cl - 1) = cl - 1 := IntWalk.i64_in _ (by omega)
          have e1 : wrap64 (cl - 1) = cl - 1 := IntWalk.wrap64_in _ (by clear e6; omega)
          clear hv
          go_upto_region 11 with (fail)
          have p3 := HP5.out.row.1.2 3 _ rfl
          have dd := HP5.out.rd.2.1.1.2 1 _ rfl
          have hsS := And.intro p3 (And.intro dd (And.intro x1 x2))
          refine wp_region_held_drew (S := fun w' => w'.cell? ⟨pb, 3, none⟩ = some (.pointer (some ⟨d, 0, none⟩)) ∧ w'.cell? ⟨d, 1, none⟩ = some (.slice (some ⟨z, 0, none⟩) 8 8) ∧ w'.cell? ⟨q, 1, none⟩ = some (.int .i64 cl) ∧ w'.cell? ⟨q, 2, none⟩ = some (.int .i64 ep)) (by kernel_rfl) ?_ (fun hHeld => ?_)
          · exact hsS
          refine wpAnyH_take (i := 0) (oi := _) (v := ?_) rfl (by kernel_rfl) (by kernel_rfl) (by kernel_rfl) (fun _ _ _ h => h) (Or.inl ⟨by rfl, ?_⟩) (by assumption) ?_
          rotate_left
          · (intro w hSw; obtain ⟨q1, q2, q3, q4⟩ := hSw; go_simp; (try with_reducible rfl))
          simp only [Act.put, List.getElem_toArray, List.getElem_cons_zero, List.setIfInBounds_toArray, List.set_cons_zero, List.set_cons_succ]
          refine wpAnyH_take (i := 1) (oi := _) (v := ?_) rfl (by kernel_rfl) (by kernel_rfl) (by kernel_rfl) (fun _ _ _ h => h) (Or.inl ⟨by rfl, ?_⟩) (by assumption) ?_
          rotate_left
          · (intro w hSw; obtain ⟨q1, q2, q3, q4⟩ := hSw; go_simp; (try with_reducible rfl))
          simp only [Act.put, List.getElem_toArray, List.getElem_cons_succ, List.getElem_cons_zero, List.setIfInBounds_toArray, List.set_cons_zero, List.set_cons_succ]
          refine wpAnyH_take (i := 2) (oi := _) (v := ?_) rfl (by kernel_rfl) (by kernel_rfl) (by kernel_rfl) (fun _ _ _ h => h) (Or.inl ⟨by rfl, ?_⟩) (by assumption) ?_
          rotate_left
          · (intro w hSw; obtain ⟨q1, q2, q3, q4⟩ := hSw; go_simp; (try with_reducible rfl))
          simp only [Act.put, List.getElem_toArray, List.getElem_cons_succ, List.getElem_cons_zero, List.setIfInBounds_toArray, List.set_cons_zero, List.set_cons_succ]
          refine wpAnyH_take (i := 3) (oi := _) (v := ?_) rfl (by kernel_rfl) (by kernel_rfl) (by kernel_rfl) (fun _ _ _ h => h) (Or.inl ⟨by rfl, ?_⟩) (by assumption) ?_
          rotate_left
          · (intro w hSw; obtain ⟨q1, q2, q3, q4⟩ := hSw; go_simp; (try with_reducible rfl))
          simp only [Act.put, List.getElem_toArray, List.getElem_cons_succ, List.getElem_cons_zero, List.setIfInBounds_toArray, List.set_cons_zero, List.set_cons_succ]
          refine wpAnyH_take (i := 4) (oi := _) (v := ?_) rfl (by kernel_rfl) (by kernel_rfl) (by kernel_rfl) (fun _ _ _ h => h) (Or.inl ⟨by rfl, ?_⟩) (by assumption) ?_
          rotate_left
          · (intro w hSw; obtain ⟨q1, q2, q3, q4⟩ := hSw; go_simp; (try with_reducible rfl))
          simp only [Act.put, List.getElem_toArray, List.getElem_cons_succ, List.getElem_cons_zero, List.setIfInBounds_toArray, List.set_cons_zero, List.set_cons_succ]
          refine wpAnyH_take (i := 5) (oi := _) (v := ?_) rfl (by kernel_rfl) (by kernel_rfl) (by kernel_rfl) (fun _ _ _ h => h) (Or.inl ⟨by rfl, ?_⟩) (by assumption) ?_
          rotate_left
          · (intro w hSw; obtain ⟨q1, q2, q3, q4⟩ := hSw; go_simp; (try with_reducible rfl))
          simp only [Act.put, List.getElem_toArray, List.getElem_cons_succ, List.getElem_cons_zero, List.setIfInBounds_toArray, List.set_cons_zero, List.set_cons_succ]
          refine wpAnyH_take (i := 6) (oi := _) (v := ?_) rfl (by kernel_rfl) (by kernel_rfl) (by kernel_rfl) (fun _ _ _ h => h) (Or.inl ⟨by rfl, ?_⟩) (by assumption) ?_
          rotate_left
          · (intro w hSw; obtain ⟨q1, q2, q3, q4⟩ := hSw; go_simp; (try with_reducible rfl))
          simp only [Act.put, List.getElem_toArray, List.getElem_cons_succ, List.getElem_cons_zero, List.setIfInBounds_toArray, List.set_cons_zero, List.set_cons_succ]
          refine wpAnyH_take (i := 7) (oi := _) (v := ?_) rfl (by kernel_rfl) (by kernel_rfl) (by kernel_rfl) (fun _ _ _ h => h) (Or.inl ⟨by rfl, ?_⟩) (by assumption) ?_
          rotate_left
          · (intro w hSw; obtain ⟨q1, q2, q3, q4⟩ := hSw; go_simp; (try with_reducible rfl))
          simp only [Act.put, List.getElem_toArray, List.getElem_cons_succ, List.getElem_cons_zero, List.setIfInBounds_toArray, List.set_cons_zero, List.set_cons_succ]
          refine wpAnyH_take (i := 8) (oi := _) (v := ?_) rfl (by kernel_rfl) (by kernel_rfl) (by kernel_rfl) (fun _ _ _ h => h) (Or.inl ⟨by rfl, ?_⟩) (by assumption) ?_
          rotate_left
          · (intro w hSw; obtain ⟨q1, q2, q3, q4⟩ := hSw; go_simp; (try with_reducible rfl))
          simp only [Act.put, List.getElem_toArray, List.getElem_cons_succ, List.getElem_cons_zero, List.setIfInBounds_toArray, List.set_cons_zero, List.set_cons_succ]
          refine wpAnyH_take (i := 9) (oi := _) (v := .int .i64 (cl - 1)) rfl (by kernel_rfl) (by kernel_rfl) (by kernel_rfl) (fun _ _ _ h => h) (Or.inl ⟨by rfl, ?_⟩) (by assumption) ?_
          · (intro w hSw; clear hSw; go_simp)
          simp only [Act.put, List.getElem_toArray, List.getElem_cons_succ, List.getElem_cons_zero, List.setIfInBounds_toArray, List.set_cons_zero, List.set_cons_succ]
          refine wpAnyH_take (i := 10) (oi := _) (v := ?_) rfl (by kernel_rfl) (by kernel_rfl) (by kernel_rfl) (fun _ _ _ h => h) (Or.inl ⟨by rfl, ?_⟩) (by assumption) ?_
          rotate_left
          · (intro w hSw; obtain ⟨q1, q2, q3, q4⟩ := hSw; go_simp; (try with_reducible rfl))
          simp only [Act.put, List.getElem_toArray, List.getElem_cons_succ, List.getElem_cons_zero, List.setIfInBounds_toArray, List.set_cons_zero, List.set_cons_succ]
          refine wpAnyH_take (i := 11) (oi := _) (v := ?_) rfl (by kernel_rfl) (by kernel_rfl) (by kernel_rfl) (fun _ _ _ h => h) (Or.inl ⟨by rfl, ?_⟩) (by assumption) ?_
          rotate_left
          · (intro w hSw; obtain ⟨q1, q2, q3, q4⟩ := hSw; go_simp; (try with_reducible rfl))
          simp only [Act.put, List.getElem_toArray, List.getElem_cons_succ, List.getElem_cons_zero, List.setIfInBounds_toArray, List.set_cons_zero, List.set_cons_succ]
          refine wpAnyH_take (i := 12) (oi := _) (v := .agg (({ ep := ep } : Sd).cells).toArray) rfl (by kernel_rfl) (by kernel_rfl) (by kernel_rfl) (fun _ _ _ h => h) (Or.inl ⟨by rfl, ?_⟩) (by assumption) ?_
          · (intro w hSw; clear hSw; kernel_rfl)
          simp only [Act.put, List.getElem_toArray, List.getElem_cons_succ, List.getElem_cons_zero, List.setIfInBounds_toArray, List.set_cons_zero, List.set_cons_succ]
          refine wpAnyH_take (i := 13) (oi := _) (v := .pointer (some ⟨z, (cl.toNat - 1) * 46, none⟩)) rfl (by kernel_rfl) (by kernel_rfl) (by kernel_rfl) (fun _ _ _ h => h) (Or.inl ⟨by rfl, ?_⟩) (by assumption) ?_
          · (intro w hSw; clear hSw; go_simp)
          simp only [Act.put, List.getElem_toArray, List.getElem_cons_succ, List.getElem_cons_zero, List.setIfInBounds_toArray, List.set_cons_zero, List.set_cons_succ]
          have t6 := setCells_turn z (({ ep := ep } : Sd).cells) ((cl.toNat - 1) * 46) w5.drew
          refine wpAnyH_ready (rs := [14]) (by kernel_rfl) (by simp) ?_
          refine AllReadyH.cons (o := _) rfl (fun K hK => ?_) AllReadyH.nil
          refine of_wanted (by rfl) ?_
          refine wp_store_mid 45 (.tmp 70) (.tmp 69) rfl z ((cl.toNat - 1) * 46) (({ ep := ep } : Sd).cells).toArray (by rfl) (by rfl) (by rw [List.size_toArray]; exact HSA.out.1) sd_size (all_oneCell_toArray fun v hv => List.all_eq_true.1 (Sd.one _) v hv) ?_
          refine hK.out _ _ ⟨t6.cellW p3 (fun k => HP5.out.zp k.symm), t6.cellW dd (fun k => HP5.out.rd.2.2.2.2.2.1 k), t6.cellW x1 hqz, t6.cellW x2 hqz⟩ (fun hHeld2 => ?_)
          clear hK K hHeld hHeld2 hsS p3 dd e1 e6
          have HP6 := Lib.hid ((HP5.out.keep ((Grow.refl w5).drew)).doc HSA.out.2 (t6.mono fun k e => .inr (.inr e)))
          clear t6
          refine wpAnyH_done (by kernel_rfl) ?_ _
          go_wp2_with fail
          go_ret
          rw [HST.out.1, HST.out.2, HSP.out]
          exact ⟨⟨true, by first | rfl | simp, fun _ => rfl⟩, x, HP6.out⟩
        · have HSP := Lib.hid (show setP t cl ep = t by unfold setP; rw [if_neg hk])
          by_cases hk1 : 1 ≤ cl
          · have d0 : decide (1 ≤ cl) = true := decide_eq_true hk1
            have d1 : decide (cl ≤ 8) = false := decide_eq_false (fun k => hk ⟨hk1, k⟩)
            go_wp2_with fail
            go_ret
            rw [HST.out.1, HST.out.2, HSP.out]
            exact ⟨⟨true, by first | rfl | simp, fun _ => rfl⟩, x, HP5.out⟩
          · have d0 : decide (1 ≤ cl) = false := decide_eq_false hk1
            go_wp2_with fail
            go_ret
            rw [HST.out.1, HST.out.2, HSP.out]
            exact ⟨⟨true, by first | rfl | simp, fun _ => rfl⟩, x, HP5.out⟩
    | false =>
      have hSTE : ∀ s : CS, stepD s e = (doP s (cutP e.p)).2.2 := fun s => by unfold stepD; rw [if_neg (by rw [← HCR.out]; decide), if_neg (by rw [← HSE.out]; decide)]
      have hOK := doP_ok HP4.out.cd.2.2.2 (cutP_ok HE.out.p)
      have hOKt := doP_ok HP4.out.rd.2.2.2.2.2.2 (cutP_ok HE.out.p)
      obtain ⟨an, han⟩ : ∃ j, j = (doP s (cutP e.p)).1 := ⟨_, rfl⟩
      obtain ⟨bn, hbn⟩ : ∃ j, j = (doP s (cutP e.p)).2.1 := ⟨_, rfl⟩
      obtain ⟨sn, hsn⟩ : ∃ j, j = (doP s (cutP e.p)).2.2 := ⟨_, rfl⟩
      obtain ⟨am, ham⟩ : ∃ j, j = (doP t (cutP e.p)).1 := ⟨_, rfl⟩
      obtain ⟨bm, hbm⟩ : ∃ j, j = (doP t (cutP e.p)).2.1 := ⟨_, rfl⟩
      obtain ⟨tm, htm⟩ : ∃ j, j = (doP t (cutP e.p)).2.2 := ⟨_, rfl⟩
      have HEQ := Lib.hid (show s = t → an = am ∧ bn = bm ∧ sn.fresh = tm.fresh from fun q => by rw [han, hbn, hsn, ham, hbm, htm, q]; exact ⟨rfl, rfl, rfl⟩)
      have HCA := Lib.hid (show ∀ v, PT w x W v pb c d z x y s t → Calls Tryz.prog 16 #[.pointer (some ⟨c, 0, none⟩), .agg ((cutP e.p).cells e.nv).toArray] v (fun r w' => r = .returned (.tuple #[.agg (an.cells (.slice none 0 0)).toArray, .bool bn]) ∧ CD w' c x sn ∧ Turn (fun k => x.F k ∨ k = c) v w') from fun v hP => by
        rw [han, hbn, hsn]
        exact card_do hP.cd (cutP e.p) (cutP_ok HE.out.p) rfl (HE.out.names.grow hP.grow) (fun h0 j hj k => by
          have q1 := HE.out.names.far h0 j hj
          rcases k with k | k
          · have := hP.xW _ k; omega
          · have := hP.cW; omega))
      have HCB := Lib.hid (show ∀ v, PT w x W v pb c d z x y sn t → Calls Tryz.prog 25 #[.pointer (some ⟨d, 0, none⟩), .agg ((cutP e.p).cells e.nv).toArray] v (fun r w' => r = .returned (.tuple #[.agg (am.cells (.slice none 0 0)).toArray, .bool bm]) ∧ RD20 w' d z y tm ∧ Turn (fun k => y.F k ∨ k = d ∨ k = z) v w') from fun v hP => by
        rw [ham, hbm, htm]
        exact ref_do hP.rd (cutP e.p) (cutP_ok HE.out.p) rfl (HE.out.names.grow hP.grow) (fun h0 j hj k => by
          have q1 := HE.out.names.far h0 j hj
          rcases k with k | k | k
          · have := hP.yW _ k; omega
          · have := hP.dW; omega
          · have := hP.zW; omega))
      rw [← han, ← hsn] at hOK
      rw [← ham, ← htm] at hOKt
      have HOKN := Lib.hid hOK
      have HOKM := Lib.hid hOKt
      have HSTE := Lib.hid (show stepD s e = sn ∧ stepD t e = tm from ⟨by rw [hSTE, hsn], by rw [hSTE, htm]⟩)
      clear han hbn hsn hSTE hOK ham hbm htm hOKt
      go_upto_region 13 with (fail)
      clear c43 c44
      go_cut [6, 7] (fun va vb wx => ∃ u, va = .pointer (some ⟨u, 0, none⟩) ∧ vb = .bool bn ∧ PT w x W wx pb c d z x y sn t ∧ Row wx u (an.cells (.slice none 0 0)) ∧ Row wx q ((cutP e.p).cells e.nv) ∧ FarT w c d z pb x y W u)
      case first =>
        have hsS := And.intro (HP4.out.row.1.2 1 _ rfl) HQ4.out.1.range
        refine wp_region_held_drew (S := fun w' => w'.cell? ⟨pb, 1, none⟩ = some (.pointer (some ⟨c, 0, none⟩)) ∧ w'.rangeAt q 0 ((cutP e.p).cells e.nv)) (by kernel_rfl) ?_ (fun hHeld => ?_)
        · exact hsS
        clear hsS
        refine wpAnyH_take (i := 0) (oi := _) (v := ?_) rfl (by kernel_rfl) (by kernel_rfl) (by kernel_rfl) (fun _ _ _ h => h) (Or.inl ⟨by rfl, ?_⟩) (by assumption) ?_
        rotate_left
        · (intro w hSw; obtain ⟨q1, -⟩ := hSw; go_simp; (try with_reducible rfl))
        simp only [Act.put, List.getElem_toArray, List.getElem_cons_zero, List.setIfInBounds_toArray, List.set_cons_zero, List.set_cons_succ]
        refine wpAnyH_take (i := 1) (oi := _) (v := ?_) rfl (by kernel_rfl) (by kernel_rfl) (by kernel_rfl) (fun _ _ _ h => h) (Or.inl ⟨by rfl, ?_⟩) (by assumption) ?_
        rotate_left
        · (intro w hSw; obtain ⟨q1, -⟩ := hSw; go_simp; (try with_reducible rfl))
        simp only [Act.put, List.getElem_toArray, List.getElem_cons_succ, List.getElem_cons_zero, List.setIfInBounds_toArray, List.set_cons_zero, List.set_cons_succ]
        refine wpAnyH_take (i := 2) (oi := _) (v := ?_) rfl (by kernel_rfl) (by kernel_rfl) (by kernel_rfl) (fun _ _ _ h => h) (Or.inl ⟨by rfl, ?_⟩) (by assumption) ?_
        rotate_left
        · (intro w hSw; obtain ⟨q1, -⟩ := hSw; go_simp; (try with_reducible rfl))
        simp only [Act.put, List.getElem_toArray, List.getElem_cons_succ, List.getElem_cons_zero, List.setIfInBounds_toArray, List.set_cons_zero, List.set_cons_succ]
        refine wpAnyH_take (i := 3) (oi := _) (v := ?_) rfl (by kernel_rfl) (by kernel_rfl) (by kernel_rfl) (fun _ _ _ h => h) (Or.inl ⟨by rfl, ?_⟩) (by assumption) ?_
        rotate_left
        · (intro w hSw; obtain ⟨q1, -⟩ := hSw; go_simp; (try with_reducible rfl))
        simp only [Act.put, List.getElem_toArray, List.getElem_cons_succ, List.getElem_cons_zero, List.setIfInBounds_toArray, List.set_cons_zero, List.set_cons_succ]
        refine wpAnyH_take (i := 4) (oi := _) (v := .agg ((cutP e.p).cells e.nv).toArray) rfl (by kernel_rfl) (by kernel_rfl) (by kernel_rfl) (fun _ _ _ h => h) (yieldsIf_load_mid (by rfl) 39 (.tmp 5) rfl q 0 (by first | (go_simp; done) | rfl) ((cutP e.p).cells e.nv) _ (fun w hS => hS.2) Tryz.underlying39 rfl pk_size) (by assumption) ?_
        simp only [Act.put, List.getElem_toArray, List.getElem_cons_succ, List.getElem_cons_zero, List.setIfInBounds_toArray, List.set_cons_zero, List.set_cons_succ]
        have gdr := (Grow.refl w4).drew
        refine wpAnyH_ready (rs := [5, 9]) (by kernel_rfl) (by simp) ?_
        refine AllReadyH.cons (o := _) rfl (fun K hK => ?_) (AllReadyH.cons (o := _) rfl (fun K hK => ?_) AllReadyH.nil)
        · refine of_wanted (by rfl) ?_
          refine wp_callTo (some 77) rfl 16 #[.pointer (some ⟨c, 0, none⟩), .agg ((cutP e.p).cells e.nv).toArray] (by kernel_rfl) _ (HCA.out w4.drew (HP4.out.keep gdr)) (fun r w' k => ⟨_, k.1⟩) ?_
          rintro v w5 ⟨he, h5, t5⟩
          obtain rfl : v = .tuple #[.agg (an.cells (.slice none 0 0)).toArray, .bool bn] := by injection he
          clear he
          have HP5 := Lib.hid ((HP4.out.keep gdr).card h5 t5)
          have HQ5 := Lib.hid ((HQ4.out.keep gdr).turnW t5 (fun k => k.elim hqX hqc))
          refine hK.out _ _ ⟨HP5.out.row.1.2 1 _ rfl, HQ5.out.1.range⟩ (fun hHeld2 => ?_)
          clear hK K h5 t5 hHeld gdr
          simp only [Act.put, List.setIfInBounds_toArray, List.set_cons_zero, List.set_cons_succ]
          refine wpAnyH_take (i := 6) (oi := _) (v := .tuple #[.agg (an.cells (.slice none 0 0)).toArray, .bool bn]) rfl (by kernel_rfl) (by kernel_rfl) (by kernel_rfl) (fun _ _ _ h => h) (Or.inl ⟨by rfl, ?_⟩) (by assumption) ?_
          · (intro w hSw; clear hSw; go_simp; (try with_reducible rfl))
          simp only [Act.put, List.getElem_toArray, List.getElem_cons_succ, List.getElem_cons_zero, List.setIfInBounds_toArray, List.set_cons_zero, List.set_cons_succ]
          refine wpAnyH_take (i := 7) (oi := _) (v := .agg (an.cells (.slice none 0 0)).toArray) rfl (by kernel_rfl) (by kernel_rfl) (by kernel_rfl) (fun _ _ _ h => h) (Or.inl ⟨by rfl, ?_⟩) (by assumption) ?_
          · (intro w hSw; clear hSw; go_simp; (try with_reducible rfl))
          simp only [Act.put, List.getElem_toArray, List.getElem_cons_succ, List.getElem_cons_zero, List.setIfInBounds_toArray, List.set_cons_zero, List.set_cons_succ]
          refine wpAnyH_take (i := 8) (oi := _) (v := .bool bn) rfl (by kernel_rfl) (by kernel_rfl) (by kernel_rfl) (fun _ _ _ h => h) (Or.inl ⟨by rfl, ?_⟩) (by assumption) ?_
          · (intro w hSw; clear hSw; go_simp; (try with_reducible rfl))
          simp only [Act.put, List.getElem_toArray, List.getElem_cons_succ, List.getElem_cons_zero, List.setIfInBounds_toArray, List.set_cons_zero, List.set_cons_succ]
          have hu0 := Row.new w5 39 zP #[.int .i64 0, .int .i64 0, .int .i64 0, .int .i64 0, .int .i64 0, .int .i64 0, .int .i64 0, .string ⟨#[]⟩, .int .i64 0, .int .i64 0, .int .i64 0, .string ⟨#[]⟩, .string ⟨#[]⟩, .int .i64 0, .int .i64 0, .int .i64 0, .int .i64 0, .string ⟨#[]⟩, .int .i64 0, .int .i64 0, .int .i64 0, .int .i64 0, .string ⟨#[]⟩, .slice none 0 0, .int .i64 0, .int .i64 0, .int .i64 0, .int .i64 0, .int .i64 0, .int .i64 0, .int .i64 0, .int .i64 0, .int .i64 0, .int .i64 0, .int .i64 0, .int .i64 0, .int .i64 0, .int .i64 0, .int .i64 0, .int .i64 0, .int .i64 0, .int .i64 0, .int .i64 0] rfl
          have GA := (Grow.refl w5).alloc (.cells #[.int .i64 0, .int .i64 0, .int .i64 0, .int .i64 0, .int .i64 0, .int .i64 0, .int .i64 0, .string ⟨#[]⟩, .int .i64 0, .int .i64 0, .int .i64 0, .string ⟨#[]⟩, .string ⟨#[]⟩, .int .i64 0, .int .i64 0, .int .i64 0, .int .i64 0, .string ⟨#[]⟩, .int .i64 0, .int .i64 0, .int .i64 0, .int .i64 0, .string ⟨#[]⟩, .slice none 0 0, .int .i64 0, .int .i64 0, .int .i64 0, .int .i64 0, .int .i64 0, .int .i64 0, .int .i64 0, .int .i64 0, .int .i64 0, .int .i64 0, .int .i64 0, .int .i64 0, .int .i64 0, .int .i64 0, .int .i64 0, .int .i64 0, .int .i64 0, .int .i64 0, .int .i64 0] 39)
          obtain ⟨w6, hw6⟩ : ∃ j, j = w5.alloc (.cells #[.int .i64 0, .int .i64 0, .int .i64 0, .int .i64 0, .int .i64 0, .int .i64 0, .int .i64 0, .string ⟨#[]⟩, .int .i64 0, .int .i64 0, .int .i64 0, .string ⟨#[]⟩, .string ⟨#[]⟩, .int .i64 0, .int .i64 0, .int .i64 0, .int .i64 0, .string ⟨#[]⟩, .int .i64 0, .int .i64 0, .int .i64 0, .int .i64 0, .string ⟨#[]⟩, .slice none 0 0, .int .i64 0, .int .i64 0, .int .i64 0, .int .i64 0, .int .i64 0, .int .i64 0, .int .i64 0, .int .i64 0, .int .i64 0, .int .i64 0, .int .i64 0, .int .i64 0, .int .i64 0, .int .i64 0, .int .i64 0, .int .i64 0, .int .i64 0, .int .i64 0, .int .i64 0] 39) := ⟨_, rfl⟩
          obtain ⟨u, hu⟩ : ∃ j, j = w5.heap.size := ⟨_, rfl⟩
          rw [← hw6] at hu0 GA
          rw [← hu] at hu0
          have HU0 := Lib.hid hu0
          have HP6 := Lib.hid (HP5.out.keep GA)
          have HQ6 := Lib.hid (HQ5.out.keep GA)
          have HUF := Lib.hid (farT HP5.out (Nat.le_of_eq hu.symm))
          have hqu : ¬ u = q := by have := HQ5.out.1.1; omega
          refine wpAnyH_ready (rs := [9]) (by kernel_rfl) (by simp) ?_
          refine AllReadyH.cons (o := _) rfl (fun K hK => ?_) AllReadyH.nil
          refine of_wanted (by rfl) ?_
          refine wp_runTo (some 6) rfl (.pointer (some ⟨u, 0, none⟩)) w6 (by rw [hw6, hu]; kernel_rfl) ?_
          refine hK.out _ _ ⟨HP6.out.row.1.2 1 _ rfl, HQ6.out.1.range⟩ (fun hHeld3 => ?_)
          clear hK K hu0 hw6 hu GA HP5 HQ5 hHeld2
          simp only [Act.put, List.setIfInBounds_toArray, List.set_cons_zero, List.set_cons_succ]
          refine wpAnyH_ready (rs := [10]) (by kernel_rfl) (by simp) ?_
          refine AllReadyH.cons (o := _) rfl (fun K hK => ?_) AllReadyH.nil
          refine of_wanted (by rfl) ?_
          refine wp_store_mid 39 (.tmp 6) (.tmp 78) rfl u 0 (an.cells (.slice none 0 0)).toArray (by rfl) (by rfl) (by rw [List.size_toArray]; exact HU0.out.there (Nat.le_refl 43)) pk_size (all_oneCell_toArray fun v hv => List.all_eq_true.1 (PK.one an rfl) v hv) ?_
          have t7 := setCells_turn u (an.cells (.slice none 0 0)) 0 w6
          have HU7 := Lib.hid (HU0.out.setCells (vs := an.cells (.slice none 0 0)) rfl)
          have HP7 := Lib.hid (HP6.out.far HUF.out t7)
          have HQ7 := Lib.hid (HQ6.out.turnW t7 (fun k => hqu k.symm))
          refine hK.out _ _ ⟨HP7.out.row.1.2 1 _ rfl, HQ7.out.1.range⟩ (fun hHeld4 => ?_)
          clear hK K t7 HU0 HP6 HQ6 hHeld3
          refine wpAnyH_take (i := 11) (oi := _) (v := .bool bn) rfl (by kernel_rfl) (by kernel_rfl) (by kernel_rfl) (fun _ _ _ h => h) (Or.inl ⟨by rfl, ?_⟩) (by assumption) ?_
          · (intro w hSw; clear hSw; go_simp; (try with_reducible rfl))
          simp only [Act.put, List.getElem_toArray, List.getElem_cons_succ, List.getElem_cons_zero, List.setIfInBounds_toArray, List.set_cons_zero, List.set_cons_succ]
          refine wpAnyH_done (by kernel_rfl) ?_ _
          go_wp2_with fail
          go_meet
          exact ⟨u, rfl, rfl, HP7.out, HU7.out, HQ7.out, HUF.out⟩
        · have hu0 := Row.new w4.drew 39 zP #[.int .i64 0, .int .i64 0, .int .i64 0, .int .i64 0, .int .i64 0, .int .i64 0, .int .i64 0, .string ⟨#[]⟩, .int .i64 0, .int .i64 0, .int .i64 0, .string ⟨#[]⟩, .string ⟨#[]⟩, .int .i64 0, .int .i64 0, .int .i64 0, .int .i64 0, .string ⟨#[]⟩, .int .i64 0, .int .i64 0, .int .i64 0, .int .i64 0, .string ⟨#[]⟩, .slice none 0 0, .int .i64 0, .int .i64 0, .int .i64 0, .int .i64 0, .int .i64 0, .int .i64 0, .int .i64 0, .int .i64 0, .int .i64 0, .int .i64 0, .int .i64 0, .int .i64 0, .int .i64 0, .int .i64 0, .int .i64 0, .int .i64 0, .int .i64 0, .int .i64 0, .int .i64 0] rfl
          have GA := (Grow.refl w4.drew).alloc (.cells #[.int .i64 0, .int .i64 0, .int .i64 0, .int .i64 0, .int .i64 0, .int .i64 0, .int .i64 0, .string ⟨#[]⟩, .int .i64 0, .int .i64 0, .int .i64 0, .string ⟨#[]⟩, .string ⟨#[]⟩, .int .i64 0, .int .i64 0, .int .i64 0, .int .i64 0, .string ⟨#[]⟩, .int .i64 0, .int .i64 0, .int .i64 0, .int .i64 0, .string ⟨#[]⟩, .slice none 0 0, .int .i64 0, .int .i64 0, .int .i64 0, .int .i64 0, .int .i64 0, .int .i64 0, .int .i64 0, .int .i64 0, .int .i64 0, .int .i64 0, .int .i64 0, .int .i64 0, .int .i64 0, .int .i64 0, .int .i64 0, .int .i64 0, .int .i64 0, .int .i64 0, .int .i64 0] 39)
          obtain ⟨w5, hw5⟩ : ∃ j, j = w4.drew.alloc (.cells #[.int .i64 0, .int .i64 0, .int .i64 0, .int .i64 0, .int .i64 0, .int .i64 0, .int .i64 0, .string ⟨#[]⟩, .int .i64 0, .int .i64 0, .int .i64 0, .string ⟨#[]⟩, .string ⟨#[]⟩, .int .i64 0, .int .i64 0, .int .i64 0, .int .i64 0, .string ⟨#[]⟩, .int .i64 0, .int .i64 0, .int .i64 0, .int .i64 0, .string ⟨#[]⟩, .slice none 0 0, .int .i64 0, .int .i64 0, .int .i64 0, .int .i64 0, .int .i64 0, .int .i64 0, .int .i64 0, .int .i64 0, .int .i64 0, .int .i64 0, .int .i64 0, .int .i64 0, .int .i64 0, .int .i64 0, .int .i64 0, .int .i64 0, .int .i64 0, .int .i64 0, .int .i64 0] 39) := ⟨_, rfl⟩
          obtain ⟨u, hu⟩ : ∃ j, j = w4.drew.heap.size := ⟨_, rfl⟩
          rw [← hw5] at hu0 GA
          rw [← hu] at hu0
          have HP5 := Lib.hid (HP4.out.keep (gdr.trans GA))
          have HQ5 := Lib.hid (HQ4.out.keep (gdr.trans GA))
          have HUF := Lib.hid (farT (HP4.out.keep gdr) (Nat.le_of_eq hu.symm))
          have hqu : ¬ u = q := by have := (HQ4.out.keep gdr).1.1; omega
          refine of_wanted (by rfl) ?_
          refine wp_runTo (some 6) rfl (.pointer (some ⟨u, 0, none⟩)) w5 (by rw [hw5, hu]; kernel_rfl) ?_
          refine hK.out _ _ ⟨HP5.out.row.1.2 1 _ rfl, HQ5.out.1.range⟩ (fun hHeld2 => ?_)
          clear hK K hw5 hu GA hHeld gdr
          simp only [Act.put, List.setIfInBounds_toArray, List.set_cons_zero, List.set_cons_succ]
          refine wpAnyH_ready (rs := [5]) (by kernel_rfl) (by simp) ?_
          refine AllReadyH.cons (o := _) rfl (fun K hK => ?_) AllReadyH.nil
          refine of_wanted (by rfl) ?_
          refine wp_callTo (some 77) rfl 16 #[.pointer (some ⟨c, 0, none⟩), .agg ((cutP e.p).cells e.nv).toArray] (by kernel_rfl) _ (HCA.out w5 HP5.out) (fun r w' k => ⟨_, k.1⟩) ?_
          rintro v w6 ⟨he, h5, t5⟩
          obtain rfl : v = .tuple #[.agg (an.cells (.slice none 0 0)).toArray, .bool bn] := by injection he
          clear he
          have HP6 := Lib.hid (HP5.out.card h5 t5)
          have HQ6 := Lib.hid (HQ5.out.turnW t5 (fun k => k.elim hqX hqc))
          have HU0 := Lib.hid (hu0.turnW t5 (fun k => k.elim HUF.out.x HUF.out.c))
          refine hK.out _ _ ⟨HP6.out.row.1.2 1 _ rfl, HQ6.out.1.range⟩ (fun hHeld3 => ?_)
          clear hK K h5 t5 hu0 HP5 HQ5 hHeld2
          simp only [Act.put, List.setIfInBounds_toArray, List.set_cons_zero, List.set_cons_succ]
          refine wpAnyH_take (i := 6) (oi := _) (v := .tuple #[.agg (an.cells (.slice none 0 0)).toArray, .bool bn]) rfl (by kernel_rfl) (by kernel_rfl) (by kernel_rfl) (fun _ _ _ h => h) (Or.inl ⟨by rfl, ?_⟩) (by assumption) ?_
          · (intro w hSw; clear hSw; go_simp; (try with_reducible rfl))
          simp only [Act.put, List.getElem_toArray, List.getElem_cons_succ, List.getElem_cons_zero, List.setIfInBounds_toArray, List.set_cons_zero, List.set_cons_succ]
          refine wpAnyH_take (i := 7) (oi := _) (v := .agg (an.cells (.slice none 0 0)).toArray) rfl (by kernel_rfl) (by kernel_rfl) (by kernel_rfl) (fun _ _ _ h => h) (Or.inl ⟨by rfl, ?_⟩) (by assumption) ?_
          · (intro w hSw; clear hSw; go_simp; (try with_reducible rfl))
          simp only [Act.put, List.getElem_toArray, List.getElem_cons_succ, List.getElem_cons_zero, List.setIfInBounds_toArray, List.set_cons_zero, List.set_cons_succ]
          refine wpAnyH_take (i := 8) (oi := _) (v := .bool bn) rfl (by kernel_rfl) (by kernel_rfl) (by kernel_rfl) (fun _ _ _ h => h) (Or.inl ⟨by rfl, ?_⟩) (by assumption) ?_
          · (intro w hSw; clear hSw; go_simp; (try with_reducible rfl))
          simp only [Act.put, List.getElem_toArray, List.getElem_cons_succ, List.getElem_cons_zero, List.setIfInBounds_toArray, List.set_cons_zero, List.set_cons_succ]
          refine wpAnyH_ready (rs := [10]) (by kernel_rfl) (by simp) ?_
          refine AllReadyH.cons (o := _) rfl (fun K hK => ?_) AllReadyH.nil
          refine of_wanted (by rfl) ?_
          refine wp_store_mid 39 (.tmp 6) (.tmp 78) rfl u 0 (an.cells (.slice none 0 0)).toArray (by rfl) (by rfl) (by rw [List.size_toArray]; exact HU0.out.there (Nat.le_refl 43)) pk_size (all_oneCell_toArray fun v hv => List.all_eq_true.1 (PK.one an rfl) v hv) ?_
          have t7 := setCells_turn u (an.cells (.slice none 0 0)) 0 w6
          have HU7 := Lib.hid (HU0.out.setCells (vs := an.cells (.slice none 0 0)) rfl)
          have HP7 := Lib.hid (HP6.out.far HUF.out t7)
          have HQ7 := Lib.hid (HQ6.out.turnW t7 (fun k => hqu k.symm))
          refine hK.out _ _ ⟨HP7.out.row.1.2 1 _ rfl, HQ7.out.1.range⟩ (fun hHeld4 => ?_)
          clear hK K t7 HU0 HP6 HQ6 hHeld3
          refine wpAnyH_take (i := 11) (oi := _) (v := .bool bn) rfl (by kernel_rfl) (by kernel_rfl) (by kernel_rfl) (fun _ _ _ h => h) (Or.inl ⟨by rfl, ?_⟩) (by assumption) ?_
          · (intro w hSw; clear hSw; go_simp; (try with_reducible rfl))
          simp only [Act.put, List.getElem_toArray, List.getElem_cons_succ, List.getElem_cons_zero, List.setIfInBounds_toArray, List.set_cons_zero, List.set_cons_succ]
          refine wpAnyH_done (by kernel_rfl) ?_ _
          go_wp2_with fail
          go_meet
          exact ⟨u, rfl, rfl, HP7.out, HU7.out, HQ7.out, HUF.out⟩
      case rest =>
        obtain ⟨u1, rfl, rfl, hp5, hu5, hq5, hf5⟩ := hcut
        obtain ⟨w8, hw8⟩ : ∃ j, j = wc := ⟨_, rfl⟩
        rw [← hw8] at hp5 hu5 hq5 ⊢
        have HP8 := Lib.hid hp5
        have HU8 := Lib.hid hu5
        have HQ8 := Lib.hid hq5
        have HF1 := Lib.hid hf5
        clear hw8 hp5 hu5 hq5 hf5 HP4 HQ4 HB4 HCA
        go_upto_region 14 with (fail)
        go_cut [8, 9] (fun va vb wx => ∃ u, va = .pointer (some ⟨u, 0, none⟩) ∧ vb = .bool bm ∧ PT w x W wx pb c d z x y sn tm ∧ Row wx u (am.cells (.slice none 0 0)) ∧ Row wx u1 (an.cells (.slice none 0 0)))
        case first =>
          have hsS := And.intro (HP8.out.row.1.2 3 _ rfl) HQ8.out.1.range
          refine wp_region_held_drew (S := fun w' => w'.cell? ⟨pb, 3, none⟩ = some (.pointer (some ⟨d, 0, none⟩)) ∧ w'.rangeAt q 0 ((cutP e.p).cells e.nv)) (by kernel_rfl) ?_ (fun hHeld => ?_)
          · exact hsS
          clear hsS
          refine wpAnyH_take (i := 0) (oi := _) (v := ?_) rfl (by kernel_rfl) (by kernel_rfl) (by kernel_rfl) (fun _ _ _ h => h) (Or.inl ⟨by rfl, ?_⟩) (by assumption) ?_
          rotate_left
          · (intro w hSw; obtain ⟨q1, -⟩ := hSw; go_simp; (try with_reducible rfl))
          simp only [Act.put, List.getElem_toArray, List.getElem_cons_zero, List.setIfInBounds_toArray, List.set_cons_zero, List.set_cons_succ]
          refine wpAnyH_take (i := 1) (oi := _) (v := ?_) rfl (by kernel_rfl) (by kernel_rfl) (by kernel_rfl) (fun _ _ _ h => h) (Or.inl ⟨by rfl, ?_⟩) (by assumption) ?_
          rotate_left
          · (intro w hSw; obtain ⟨q1, -⟩ := hSw; go_simp; (try with_reducible rfl))
          simp only [Act.put, List.getElem_toArray, List.getElem_cons_succ, List.getElem_cons_zero, List.setIfInBounds_toArray, List.set_cons_zero, List.set_cons_succ]
          refine wpAnyH_take (i := 2) (oi := _) (v := ?_) rfl (by kernel_rfl) (by kernel_rfl) (by kernel_rfl) (fun _ _ _ h => h) (Or.inl ⟨by rfl, ?_⟩) (by assumption) ?_
          rotate_left
          · (intro w hSw; obtain ⟨q1, -⟩ := hSw; go_simp; (try with_reducible rfl))
          simp only [Act.put, List.getElem_toArray, List.getElem_cons_succ, List.getElem_cons_zero, List.setIfInBounds_toArray, List.set_cons_zero, List.set_cons_succ]
          refine wpAnyH_take (i := 3) (oi := _) (v := ?_) rfl (by kernel_rfl) (by kernel_rfl) (by kernel_rfl) (fun _ _ _ h => h) (Or.inl ⟨by rfl, ?_⟩) (by assumption) ?_
          rotate_left
          · (intro w hSw; obtain ⟨q1, -⟩ := hSw; go_simp; (try with_reducible rfl))
          simp only [Act.put, List.getElem_toArray, List.getElem_cons_succ, List.getElem_cons_zero, List.setIfInBounds_toArray, List.set_cons_zero, List.set_cons_succ]
          refine wpAnyH_take (i := 4) (oi := _) (v := .agg ((cutP e.p).cells e.nv).toArray) rfl (by kernel_rfl) (by kernel_rfl) (by kernel_rfl) (fun _ _ _ h => h) (yieldsIf_load_mid (by rfl) 39 (.tmp 5) rfl q 0 (by first | (go_simp; done) | rfl) ((cutP e.p).cells e.nv) _ (fun w hS => hS.2) Tryz.underlying39 rfl pk_size) (by assumption) ?_
          simp only [Act.put, List.getElem_toArray, List.getElem_cons_succ, List.getElem_cons_zero, List.setIfInBounds_toArray, List.set_cons_zero, List.set_cons_succ]
          have gdr := (Grow.refl w8).drew
          refine wpAnyH_ready (rs := [5, 9]) (by kernel_rfl) (by simp) ?_
          refine AllReadyH.cons (o := _) rfl (fun K hK => ?_) (AllReadyH.cons (o := _) rfl (fun K hK => ?_) AllReadyH.nil)
          · refine of_wanted (by rfl) ?_
            refine wp_callTo (some 86) rfl 25 #[.pointer (some ⟨d, 0, none⟩), .agg ((cutP e.p).cells e.nv).toArray] (by kernel_rfl) _ (HCB.out w8.drew (HP8.out.keep gdr)) (fun r w' k => ⟨_, k.1⟩) ?_
            rintro v w5 ⟨he, h5, t5⟩
            obtain rfl : v = .tuple #[.agg (am.cells (.slice none 0 0)).toArray, .bool bm] := by injection he
            clear he
            have HP5 := Lib.hid ((HP8.out.keep gdr).doc h5 t5)
            have HQ5 := Lib.hid ((HQ8.out.keep gdr).turnW t5 (fun k => k.elim hqY (fun k => k.elim hqd hqz)))
            have HX5 := Lib.hid ((HU8.out.keep gdr).turnW t5 (fun k => k.elim HF1.out.y (fun k => k.elim HF1.out.d HF1.out.z)))
            refine hK.out _ _ ⟨HP5.out.row.1.2 3 _ rfl, HQ5.out.1.range⟩ (fun hHeld2 => ?_)
            clear hK K h5 t5 hHeld gdr
            simp only [Act.put, List.setIfInBounds_toArray, List.set_cons_zero, List.set_cons_succ]
            refine wpAnyH_take (i := 6) (oi := _) (v := .tuple #[.agg (am.cells (.slice none 0 0)).toArray, .bool bm]) rfl (by kernel_rfl) (by kernel_rfl) (by kernel_rfl) (fun _ _ _ h => h) (Or.inl ⟨by rfl, ?_⟩) (by assumption) ?_
            · (intro w hSw; clear hSw; go_simp; (try with_reducible rfl))
            simp only [Act.put, List.getElem_toArray, List.getElem_cons_succ, List.getElem_cons_zero, List.setIfInBounds_toArray, List.set_cons_zero, List.set_cons_succ]
            refine wpAnyH_take (i := 7) (oi := _) (v := .agg (am.cells (.slice none 0 0)).toArray) rfl (by kernel_rfl) (by kernel_rfl) (by kernel_rfl) (fun _ _ _ h => h) (Or.inl ⟨by rfl, ?_⟩) (by assumption) ?_
            · (intro w hSw; clear hSw; go_simp; (try with_reducible rfl))
            simp only [Act.put, List.getElem_toArray, List.getElem_cons_succ, List.getElem_cons_zero, List.setIfInBounds_toArray, List.set_cons_zero, List.set_cons_succ]
            refine wpAnyH_take (i := 8) (oi := _) (v := .bool bm) rfl (by kernel_rfl) (by kernel_rfl) (by kernel_rfl) (fun _ _ _ h => h) (Or.inl ⟨by rfl, ?_⟩) (by assumption) ?_
            · (intro w hSw; clear hSw; go_simp; (try with_reducible rfl))
            simp only [Act.put, List.getElem_toArray, List.getElem_cons_succ, List.getElem_cons_zero, List.setIfInBounds_toArray, List.set_cons_zero, List.set_cons_succ]
            have hu0 := Row.new w5 39 zP #[.int .i64 0, .int .i64 0, .int .i64 0, .int .i64 0, .int .i64 0, .int .i64 0, .int .i64 0, .string ⟨#[]⟩, .int .i64 0, .int .i64 0, .int .i64 0, .string ⟨#[]⟩, .string ⟨#[]⟩, .int .i64 0, .int .i64 0, .int .i64 0, .int .i64 0, .string ⟨#[]⟩, .int .i64 0, .int .i64 0, .int .i64 0, .int .i64 0, .string ⟨#[]⟩, .slice none 0 0, .int .i64 0, .int .i64 0, .int .i64 0, .int .i64 0, .int .i64 0, .int .i64 0, .int .i64 0, .int .i64 0, .int .i64 0, .int .i64 0, .int .i64 0, .int .i64 0, .int .i64 0, .int .i64 0, .int .i64 0, .int .i64 0, .int .i64 0, .int .i64 0, .int .i64 0] rfl
            have GA := (Grow.refl w5).alloc (.cells #[.int .i64 0, .int .i64 0, .int .i64 0, .int .i64 0, .int .i64 0, .int .i64 0, .int .i64 0, .string ⟨#[]⟩, .int .i64 0, .int .i64 0, .int .i64 0, .string ⟨#[]⟩, .string ⟨#[]⟩, .int .i64 0, .int .i64 0, .int .i64 0, .int .i64 0, .string ⟨#[]⟩, .int .i64 0, .int .i64 0, .int .i64 0, .int .i64 0, .string ⟨#[]⟩, .slice none 0 0, .int .i64 0, .int .i64 0, .int .i64 0, .int .i64 0, .int .i64 0, .int .i64 0, .int .i64 0, .int .i64 0, .int .i64 0, .int .i64 0, .int .i64 0, .int .i64 0, .int .i64 0, .int .i64 0, .int .i64 0, .int .i64 0, .int .i64 0, .int .i64 0, .int .i64 0] 39)
            obtain ⟨w6, hw6⟩ : ∃ j, j = w5.alloc (.cells #[.int .i64 0, .int .i64 0, .int .i64 0, .int .i64 0, .int .i64 0, .int .i64 0, .int .i64 0, .string ⟨#[]⟩, .int .i64 0, .int .i64 0, .int .i64 0, .string ⟨#[]⟩, .string ⟨#[]⟩, .int .i64 0, .int .i64 0, .int .i64 0, .int .i64 0, .string ⟨#[]⟩, .int .i64 0, .int .i64 0, .int .i64 0, .int .i64 0, .string ⟨#[]⟩, .slice none 0 0, .int .i64 0, .int .i64 0, .int .i64 0, .int .i64 0, .int .i64 0, .int .i64 0, .int .i64 0, .int .i64 0, .int .i64 0, .int .i64 0, .int .i64 0, .int .i64 0, .int .i64 0, .int .i64 0, .int .i64 0, .int .i64 0, .int .i64 0, .int .i64 0, .int .i64 0] 39) := ⟨_, rfl⟩
            obtain ⟨u, hu⟩ : ∃ j, j = w5.heap.size := ⟨_, rfl⟩
            rw [← hw6] at hu0 GA
            rw [← hu] at hu0
            have HU0 := Lib.hid hu0
            have HP6 := Lib.hid (HP5.out.keep GA)
            have HQ6 := Lib.hid (HQ5.out.keep GA)
            have HUF := Lib.hid (farT HP5.out (Nat.le_of_eq hu.symm))
            have hqu : ¬ u = q := by have := HQ5.out.1.1; omega
            have HX6 := Lib.hid (HX5.out.keep GA)
            have hxu : ¬ u = u1 := by have := HX5.out.1.1; omega
            refine wpAnyH_ready (rs := [9]) (by kernel_rfl) (by simp) ?_
            refine AllReadyH.cons (o := _) rfl (fun K hK => ?_) AllReadyH.nil
            refine of_wanted (by rfl) ?_
            refine wp_runTo (some 8) rfl (.pointer (some ⟨u, 0, none⟩)) w6 (by rw [hw6, hu]; kernel_rfl) ?_
            refine hK.out _ _ ⟨HP6.out.row.1.2 3 _ rfl, HQ6.out.1.range⟩ (fun hHeld3 => ?_)
            clear hK K hu0 hw6 hu GA HP5 HQ5 hHeld2
            simp only [Act.put, List.setIfInBounds_toArray, List.set_cons_zero, List.set_cons_succ]
            refine wpAnyH_ready (rs := [10]) (by kernel_rfl) (by simp) ?_
            refine AllReadyH.cons (o := _) rfl (fun K hK => ?_) AllReadyH.nil
            refine of_wanted (by rfl) ?_
            refine wp_store_mid 39 (.tmp 8) (.tmp 87) rfl u 0 (am.cells (.slice none 0 0)).toArray (by rfl) (by rfl) (by rw [List.size_toArray]; exact HU0.out.there (Nat.le_refl 43)) pk_size (all_oneCell_toArray fun v hv => List.all_eq_true.1 (PK.one am rfl) v hv) ?_
            have t7 := setCells_turn u (am.cells (.slice none 0 0)) 0 w6
            have HU7 := Lib.hid (HU0.out.setCells (vs := am.cells (.slice none 0 0)) rfl)
            have HP7 := Lib.hid (HP6.out.far HUF.out t7)
            have HQ7 := Lib.hid (HQ6.out.turnW t7 (fun k => hqu k.symm))
            have HX7 := Lib.hid (HX6.out.turnW t7 (fun k => hxu k.symm))
            refine hK.out _ _ ⟨HP7.out.row.1.2 3 _ rfl, HQ7.out.1.range⟩ (fun hHeld4 => ?_)
            clear hK K t7 HU0 HP6 HQ6 hHeld3
            refine wpAnyH_take (i := 11) (oi := _) (v := .bool bm) rfl (by kernel_rfl) (by kernel_rfl) (by kernel_rfl) (fun _ _ _ h => h) (Or.inl ⟨by rfl, ?_⟩) (by assumption) ?_
            · (intro w hSw; clear hSw; go_simp; (try with_reducible rfl))
            simp only [Act.put, List.getElem_toArray, List.getElem_cons_succ, List.getElem_cons_zero, List.setIfInBounds_toArray, List.set_cons_zero, List.set_cons_succ]
            refine wpAnyH_done (by kernel_rfl) ?_ _
            go_wp2_with fail
            go_meet
            exact ⟨u, rfl, rfl, HP7.out, HU7.out, HX7.out⟩
          · have hu0 := Row.new w8.drew 39 zP #[.int .i64 0, .int .i64 0, .int .i64 0, .int .i64 0, .int .i64 0, .int .i64 0, .int .i64 0, .string ⟨#[]⟩, .int .i64 0, .int .i64 0, .int .i64 0, .string ⟨#[]⟩, .string ⟨#[]⟩, .int .i64 0, .int .i64 0, .int .i64 0, .int .i64 0, .string ⟨#[]⟩, .int .i64 0, .int .i64 0, .int .i64 0, .int .i64 0, .string ⟨#[]⟩, .slice none 0 0, .int .i64 0, .int .i64 0, .int .i64 0, .int .i64 0, .int .i64 0, .int .i64 0, .int .i64 0, .int .i64 0, .int .i64 0, .int .i64 0, .int .i64 0, .int .i64 0, .int .i64 0, .int .i64 0, .int .i64 0, .int .i64 0, .int .i64 0, .int .i64 0, .int .i64 0] rfl
            have GA := (Grow.refl w8.drew).alloc (.cells #[.int .i64 0, .int .i64 0, .int .i64 0, .int .i64 0, .int .i64 0, .int .i64 0, .int .i64 0, .string ⟨#[]⟩, .int .i64 0, .int .i64 0, .int .i64 0, .string ⟨#[]⟩, .string ⟨#[]⟩, .int .i64 0, .int .i64 0, .int .i64 0, .int .i64 0, .string ⟨#[]⟩, .int .i64 0, .int .i64 0, .int .i64 0, .int .i64 0, .string ⟨#[]⟩, .slice none 0 0, .int .i64 0, .int .i64 0, .int .i64 0, .int .i64 0, .int .i64 0, .int .i64 0, .int .i64 0, .int .i64 0, .int .i64 0, .int .i64 0, .int .i64 0, .int .i64 0, .int .i64 0, .int .i64 0, .int .i64 0, .int .i64 0, .int .i64 0, .int .i64 0, .int .i64 0] 39)
            obtain ⟨w5, hw5⟩ : ∃ j, j = w8.drew.alloc (.cells #[.int .i64 0, .int .i64 0, .int .i64 0, .int .i64 0, .int .i64 0, .int .i64 0, .int .i64 0, .string ⟨#[]⟩, .int .i64 0, .int .i64 0, .int .i64 0, .string ⟨#[]⟩, .string ⟨#[]⟩, .int .i64 0, .int .i64 0, .int .i64 0, .int .i64 0, .string ⟨#[]⟩, .int .i64 0, .int .i64 0, .int .i64 0, .int .i64 0, .string ⟨#[]⟩, .slice none 0 0, .int .i64 0, .int .i64 0, .int .i64 0, .int .i64 0, .int .i64 0, .int .i64 0, .int .i64 0, .int .i64 0, .int .i64 0, .int .i64 0, .int .i64 0, .int .i64 0, .int .i64 0, .int .i64 0, .int .i64 0, .int .i64 0, .int .i64 0, .int .i64 0, .int .i64 0] 39) := ⟨_, rfl⟩
            obtain ⟨u, hu⟩ : ∃ j, j = w8.drew.heap.size := ⟨_, rfl⟩
            rw [← hw5] at hu0 GA
            rw [← hu] at hu0
            have HP5 := Lib.hid (HP8.out.keep (gdr.trans GA))
            have HQ5 := Lib.hid (HQ8.out.keep (gdr.trans GA))
            have HUF := Lib.hid (farT (HP8.out.keep gdr) (Nat.le_of_eq hu.symm))
            have hqu : ¬ u = q := by have := (HQ8.out.keep gdr).1.1; omega
            have HX5 := Lib.hid (HU8.out.keep (gdr.trans GA))
            have hxu : ¬ u = u1 := by have := (HU8.out.keep gdr).1.1; omega
            refine of_wanted (by rfl) ?_
            refine wp_runTo (some 8) rfl (.pointer (some ⟨u, 0, none⟩)) w5 (by rw [hw5, hu]; kernel_rfl) ?_
            refine hK.out _ _ ⟨HP5.out.row.1.2 3 _ rfl, HQ5.out.1.range⟩ (fun hHeld2 => ?_)
            clear hK K hw5 hu GA hHeld gdr
            simp only [Act.put, List.setIfInBounds_toArray, List.set_cons_zero, List.set_cons_succ]
            refine wpAnyH_ready (rs := [5]) (by kernel_rfl) (by simp) ?_
            refine AllReadyH.cons (o := _) rfl (fun K hK => ?_) AllReadyH.nil
            refine of_wanted (by rfl) ?_
            refine wp_callTo (some 86) rfl 25 #[.pointer (some ⟨d, 0, none⟩), .agg ((cutP e.p).cells e.nv).toArray] (by kernel_rfl) _ (HCB.out w5 HP5.out) (fun r w' k => ⟨_, k.1⟩) ?_
            rintro v w6 ⟨he, h5, t5⟩
            obtain rfl : v = .tuple #[.agg (am.cells (.slice none 0 0)).toArray, .bool bm] := by injection he
            clear he
            have HP6 := Lib.hid (HP5.out.doc h5 t5)
            have HQ6 := Lib.hid (HQ5.out.turnW t5 (fun k => k.elim hqY (fun k => k.elim hqd hqz)))
            have HU0 := Lib.hid (hu0.turnW t5 (fun k => k.elim HUF.out.y (fun k => k.elim HUF.out.d HUF.out.z)))
            have HX6 := Lib.hid (HX5.out.turnW t5 (fun k => k.elim HF1.out.y (fun k => k.elim HF1.out.d HF1.out.z)))
            refine hK.out _ _ ⟨HP6.out.row.1.2 3 _ rfl, HQ6.out.1.range⟩ (fun hHeld3 => ?_)
            clear hK K h5 t5 hu0 HP5 HQ5 hHeld2
            simp only [Act.put, List.setIfInBounds_toArray, List.set_cons_zero, List.set_cons_succ]
            refine wpAnyH_take (i := 6) (oi := _) (v := .tuple #[.agg (am.cells (.slice none 0 0)).toArray, .bool bm]) rfl (by kernel_rfl) (by kernel_rfl) (by kernel_rfl) (fun _ _ _ h => h) (Or.inl ⟨by rfl, ?_⟩) (by assumption) ?_
            · (intro w hSw; clear hSw; go_simp; (try with_reducible rfl))
            simp only [Act.put, List.getElem_toArray, List.getElem_cons_succ, List.getElem_cons_zero, List.setIfInBounds_toArray, List.set_cons_zero, List.set_cons_succ]
            refine wpAnyH_take (i := 7) (oi := _) (v := .agg (am.cells (.slice none 0 0)).toArray) rfl (by kernel_rfl) (by kernel_rfl) (by kernel_rfl) (fun _ _ _ h => h) (Or.inl ⟨by rfl, ?_⟩) (by assumption) ?_
            · (intro w hSw; clear hSw; go_simp; (try with_reducible rfl))
            simp only [Act.put, List.getElem_toArray, List.getElem_cons_succ, List.getElem_cons_zero, List.setIfInBounds_toArray, List.set_cons_zero, List.set_cons_succ]
            refine wpAnyH_take (i := 8) (oi := _) (v := .bool bm) rfl (by kernel_rfl) (by kernel_rfl) (by kernel_rfl) (fun _ _ _ h => h) (Or.inl ⟨by rfl, ?_⟩) (by assumption) ?_
            · (intro w hSw; clear hSw; go_simp; (try with_reducible rfl))
            simp only [Act.put, List.getElem_toArray, List.getElem_cons_succ, List.getElem_cons_zero, List.setIfInBounds_toArray, List.set_cons_zero, List.set_cons_succ]
            refine wpAnyH_ready (rs := [10]) (by kernel_rfl) (by simp) ?_
            refine AllReadyH.cons (o := _) rfl (fun K hK => ?_) AllReadyH.nil
            refine of_wanted (by rfl) ?_
            refine wp_store_mid 39 (.tmp 8) (.tmp 87) rfl u 0 (am.cells (.slice none 0 0)).toArray (by rfl) (by rfl) (by rw [List.size_toArray]; exact HU0.out.there (Nat.le_refl 43)) pk_size (all_oneCell_toArray fun v hv => List.all_eq_true.1 (PK.one am rfl) v hv) ?_
            have t7 := setCells_turn u (am.cells (.slice none 0 0)) 0 w6
            have HU7 := Lib.hid (HU0.out.setCells (vs := am.cells (.slice none 0 0)) rfl)
            have HP7 := Lib.hid (HP6.out.far HUF.out t7)
            have HQ7 := Lib.hid (HQ6.out.turnW t7 (fun k => hqu k.symm))
            have HX7 := Lib.hid (HX6.out.turnW t7 (fun k => hxu k.symm))
            refine hK.out _ _ ⟨HP7.out.row.1.2 3 _ rfl, HQ7.out.1.range⟩ (fun hHeld4 => ?_)
            clear hK K t7 HU0 HP6 HQ6 hHeld3
            refine wpAnyH_take (i := 11) (oi := _) (v := .bool bm) rfl (by kernel_rfl) (by kernel_rfl) (by kernel_rfl) (fun _ _ _ h => h) (Or.inl ⟨by rfl, ?_⟩) (by assumption) ?_
            · (intro w hSw; clear hSw; go_simp; (try with_reducible rfl))
            simp only [Act.put, List.getElem_toArray, List.getElem_cons_succ, List.getElem_cons_zero, List.setIfInBounds_toArray, List.set_cons_zero, List.set_cons_succ]
            refine wpAnyH_done (by kernel_rfl) ?_ _
            go_wp2_with fail
            go_meet
            exact ⟨u, rfl, rfl, HP7.out, HU7.out, HX7.out⟩
        case rest =>
          obtain ⟨u2, rfl, rfl, hp9, hu2, hu1⟩ := hcut
          obtain ⟨w9, hw9⟩ : ∃ j, j = wc := ⟨_, rfl⟩
          rw [← hw9] at hp9 hu2 hu1 ⊢
          have HP9 := Lib.hid hp9
          have HU1 := Lib.hid hu1
          have HU2 := Lib.hid hu2
          clear hw9 hp9 hu1 hu2 HP8 HU8 HQ8 HF1 HCB
          have hnm : RS w9 none 0 an.names := by rw [HOKN.out.2.1]; exact RS.nil _
          have hln : 0 = an.names.length := by rw [HOKN.out.2.1]; rfl
          have hnm' : RS w9 none 0 am.names := by rw [HOKM.out.2.1]; exact RS.nil _
          have hln' : 0 = am.names.length := by rw [HOKM.out.2.1]; rfl
          have hsame := m_sameK (c := 0) (c' := 0) an am hln hln' hnm hnm' HOKN.out.1 HOKM.out.1
          clear hnm hln hnm' hln'
          go_upto_region 15 with (fail)
          refine wp_region_list ?_
          refine wpList_loadRow rfl 39 (.tmp 6) rfl (some 89) rfl u1 (by first | (go_simp; done) | rfl) (an.cells (.slice none 0 0)) _ HU1.out.1 Tryz.underlying39 rfl pk_size ?_
          refine wpList_loadRow rfl 39 (.tmp 8) rfl (some 90) rfl u2 (by first | (go_simp; done) | rfl) (am.cells (.slice none 0 0)) _ HU2.out.1 Tryz.underlying39 rfl pk_size ?_
          refine wpList_callC rfl (some 91) rfl 19 #[.agg (an.cells (.slice none 0 0)).toArray, .agg (am.cells (.slice none 0 0)).toArray] (by go_simp) _ hsame (fun r w' k => by obtain ⟨_, k, -⟩ := k; exact ⟨_, k⟩) ?_
          rintro v w10 ⟨b, he, hb, g10⟩
          obtain rfl : v = .bool b := by injection he
          have HP10 := Lib.hid (HP9.out.keep g10)
          have HBB := Lib.hid (show s = t → b = true from fun q => by rw [hb.out]; exact decide_eq_true (HEQ.out q).1)
          clear he hb g10 hsame HP9 HU1 HU2
          have p1 := HP10.out.row.1.2 1 _ rfl
          have p3 := HP10.out.row.1.2 3 _ rfl
          have dd := HP10.out.rd.2.1.1.2 2 _ rfl
          have hsS := And.intro p1 (And.intro p3 dd)
          obtain ⟨fr, hfr⟩ : ∃ j, j = sn.fresh := ⟨_, rfl⟩
          obtain ⟨ft, hft⟩ : ∃ j, j = tm.fresh := ⟨_, rfl⟩
          rw [← hft] at hsS dd
          rw [← hfr, ← hft] at HEQ
          have HFR := Lib.hid hfr
          clear hfr hft
          go_upto_region 16 with (fail)
          cases b with
          | false =>
            refine wp_region_held_drew (S := fun w' => w'.cell? ⟨pb, 1, none⟩ = some (.pointer (some ⟨c, 0, none⟩)) ∧ w'.cell? ⟨pb, 3, none⟩ = some (.pointer (some ⟨d, 0, none⟩)) ∧ w'.cell? ⟨d, 2, none⟩ = some (.bool ft)) (by kernel_rfl) ?_ (fun hHeld => ?_)
            · exact hsS
            refine wpAnyH_take (i := 0) (oi := _) (v := .bool false) rfl (by kernel_rfl) (by kernel_rfl) (by kernel_rfl) (fun _ _ _ h => h) (Or.inl ⟨by rfl, ?_⟩) (by assumption) ?_
            · (intro w hSw; clear hSw; go_simp; (try with_reducible rfl))
            simp only [Act.put, List.getElem_toArray, List.getElem_cons_zero, List.setIfInBounds_toArray, List.set_cons_zero, List.set_cons_succ]
            refine wpAnyH_take (i := 1) (oi := _) (v := .bool false) rfl (by kernel_rfl) (by kernel_rfl) (by kernel_rfl) (fun _ _ _ h => h) (Or.inl ⟨by rfl, ?_⟩) (by assumption) ?_
            · (intro w hSw; clear hSw; go_simp; (try with_reducible rfl))
            simp only [Act.put, List.getElem_toArray, List.getElem_cons_succ, List.getElem_cons_zero, List.setIfInBounds_toArray, List.set_cons_zero, List.set_cons_succ]
            refine wpAnyH_take (i := 2) (oi := _) (v := undef) rfl (by kernel_rfl) (by kernel_rfl) (by kernel_rfl) (fun _ _ _ h => h) (Or.inr ⟨by rfl, rfl⟩) (by assumption) ?_
            simp only [Act.put, List.getElem_toArray, List.getElem_cons_succ, List.getElem_cons_zero, List.setIfInBounds_toArray, List.set_cons_zero, List.set_cons_succ]
            refine wpAnyH_take (i := 3) (oi := _) (v := undef) rfl (by kernel_rfl) (by kernel_rfl) (by kernel_rfl) (fun _ _ _ h => h) (Or.inr ⟨by rfl, rfl⟩) (by assumption) ?_
            simp only [Act.put, List.getElem_toArray, List.getElem_cons_succ, List.getElem_cons_zero, List.setIfInBounds_toArray, List.set_cons_zero, List.set_cons_succ]
            refine wpAnyH_take (i := 4) (oi := _) (v := undef) rfl (by kernel_rfl) (by kernel_rfl) (by kernel_rfl) (fun _ _ _ h => h) (Or.inr ⟨by rfl, rfl⟩) (by assumption) ?_
            simp only [Act.put, List.getElem_toArray, List.getElem_cons_succ, List.getElem_cons_zero, List.setIfInBounds_toArray, List.set_cons_zero, List.set_cons_succ]
            refine wpAnyH_take (i := 5) (oi := _) (v := .bool false) rfl (by kernel_rfl) (by kernel_rfl) (by kernel_rfl) (fun _ _ _ h => h) (Or.inl ⟨by rfl, ?_⟩) (by assumption) ?_
            · (intro w hSw; clear hSw; go_simp; (try with_reducible rfl))
            simp only [Act.put, List.getElem_toArray, List.getElem_cons_succ, List.getElem_cons_zero, List.setIfInBounds_toArray, List.set_cons_zero, List.set_cons_succ]
            refine wpAnyH_take (i := 6) (oi := _) (v := .bool false) rfl (by kernel_rfl) (by kernel_rfl) (by kernel_rfl) (fun _ _ _ h => h) (Or.inl ⟨by rfl, ?_⟩) (by assumption) ?_
            · (intro w hSw; clear hSw; go_simp; (try with_reducible rfl))
            simp only [Act.put, List.getElem_toArray, List.getElem_cons_succ, List.getElem_cons_zero, List.setIfInBounds_toArray, List.set_cons_zero, List.set_cons_succ]
            refine wpAnyH_take (i := 7) (oi := _) (v := undef) rfl (by kernel_rfl) (by kernel_rfl) (by kernel_rfl) (fun _ _ _ h => h) (Or.inr ⟨by rfl, rfl⟩) (by assumption) ?_
            simp only [Act.put, List.getElem_toArray, List.getElem_cons_succ, List.getElem_cons_zero, List.setIfInBounds_toArray, List.set_cons_zero, List.set_cons_succ]
            refine wpAnyH_take (i := 8) (oi := _) (v := undef) rfl (by kernel_rfl) (by kernel_rfl) (by kernel_rfl) (fun _ _ _ h => h) (Or.inr ⟨by rfl, rfl⟩) (by assumption) ?_
            simp only [Act.put, List.getElem_toArray, List.getElem_cons_succ, List.getElem_cons_zero, List.setIfInBounds_toArray, List.set_cons_zero, List.set_cons_succ]
            refine wpAnyH_take (i := 9) (oi := _) (v := undef) rfl (by kernel_rfl) (by kernel_rfl) (by kernel_rfl) (fun _ _ _ h => h) (Or.inr ⟨by rfl, rfl⟩) (by assumption) ?_
            simp only [Act.put, List.getElem_toArray, List.getElem_cons_succ, List.getElem_cons_zero, List.setIfInBounds_toArray, List.set_cons_zero, List.set_cons_succ]
            refine wpAnyH_take (i := 10) (oi := _) (v := undef) rfl (by kernel_rfl) (by kernel_rfl) (by kernel_rfl) (fun _ _ _ h => h) (Or.inr ⟨by rfl, rfl⟩) (by assumption) ?_
            simp only [Act.put, List.getElem_toArray, List.getElem_cons_succ, List.getElem_cons_zero, List.setIfInBounds_toArray, List.set_cons_zero, List.set_cons_succ]
            refine wpAnyH_take (i := 11) (oi := _) (v := undef) rfl (by kernel_rfl) (by kernel_rfl) (by kernel_rfl) (fun _ _ _ h => h) (Or.inr ⟨by rfl, rfl⟩) (by assumption) ?_
            simp only [Act.put, List.getElem_toArray, List.getElem_cons_succ, List.getElem_cons_zero, List.setIfInBounds_toArray, List.set_cons_zero, List.set_cons_succ]
            refine wpAnyH_take (i := 12) (oi := _) (v := undef) rfl (by kernel_rfl) (by kernel_rfl) (by kernel_rfl) (fun _ _ _ h => h) (Or.inr ⟨by rfl, rfl⟩) (by assumption) ?_
            simp only [Act.put, List.getElem_toArray, List.getElem_cons_succ, List.getElem_cons_zero, List.setIfInBounds_toArray, List.set_cons_zero, List.set_cons_succ]
            refine wpAnyH_take (i := 13) (oi := _) (v := undef) rfl (by kernel_rfl) (by kernel_rfl) (by kernel_rfl) (fun _ _ _ h => h) (Or.inr ⟨by rfl, rfl⟩) (by assumption) ?_
            simp only [Act.put, List.getElem_toArray, List.getElem_cons_succ, List.getElem_cons_zero, List.setIfInBounds_toArray, List.set_cons_zero, List.set_cons_succ]
            refine wpAnyH_take (i := 14) (oi := _) (v := undef) rfl (by kernel_rfl) (by kernel_rfl) (by kernel_rfl) (fun _ _ _ h => h) (Or.inr ⟨by rfl, rfl⟩) (by assumption) ?_
            simp only [Act.put, List.getElem_toArray, List.getElem_cons_succ, List.getElem_cons_zero, List.setIfInBounds_toArray, List.set_cons_zero, List.set_cons_succ]
            refine wpAnyH_take (i := 15) (oi := _) (v := undef) rfl (by kernel_rfl) (by kernel_rfl) (by kernel_rfl) (fun _ _ _ h => h) (Or.inr ⟨by rfl, rfl⟩) (by assumption) ?_
            simp only [Act.put, List.getElem_toArray, List.getElem_cons_succ, List.getElem_cons_zero, List.setIfInBounds_toArray, List.set_cons_zero, List.set_cons_succ]
            refine wpAnyH_take (i := 16) (oi := _) (v := undef) rfl (by kernel_rfl) (by kernel_rfl) (by kernel_rfl) (fun _ _ _ h => h) (Or.inr ⟨by rfl, rfl⟩) (by assumption) ?_
            simp only [Act.put, List.getElem_toArray, List.getElem_cons_succ, List.getElem_cons_zero, List.setIfInBounds_toArray, List.set_cons_zero, List.set_cons_succ]
            refine wpAnyH_take (i := 17) (oi := _) (v := undef) rfl (by kernel_rfl) (by kernel_rfl) (by kernel_rfl) (fun _ _ _ h => h) (Or.inr ⟨by rfl, rfl⟩) (by assumption) ?_
            simp only [Act.put, List.getElem_toArray, List.getElem_cons_succ, List.getElem_cons_zero, List.setIfInBounds_toArray, List.set_cons_zero, List.set_cons_succ]
            refine wpAnyH_take (i := 18) (oi := _) (v := undef) rfl (by kernel_rfl) (by kernel_rfl) (by kernel_rfl) (fun _ _ _ h => h) (Or.inr ⟨by rfl, rfl⟩) (by assumption) ?_
            simp only [Act.put, List.getElem_toArray, List.getElem_cons_succ, List.getElem_cons_zero, List.setIfInBounds_toArray, List.set_cons_zero, List.set_cons_succ]
            refine wpAnyH_take (i := 19) (oi := _) (v := undef) rfl (by kernel_rfl) (by kernel_rfl) (by kernel_rfl) (fun _ _ _ h => h) (Or.inr ⟨by rfl, rfl⟩) (by assumption) ?_
            simp only [Act.put, List.getElem_toArray, List.getElem_cons_succ, List.getElem_cons_zero, List.setIfInBounds_toArray, List.set_cons_zero, List.set_cons_succ]
            refine wpAnyH_take (i := 20) (oi := _) (v := .bool false) rfl (by kernel_rfl) (by kernel_rfl) (by kernel_rfl) (fun _ _ _ h => h) (Or.inl ⟨by rfl, ?_⟩) (by assumption) ?_
            · (intro w hSw; clear hSw; go_simp; (try with_reducible rfl))
            simp only [Act.put, List.getElem_toArray, List.getElem_cons_succ, List.getElem_cons_zero, List.setIfInBounds_toArray, List.set_cons_zero, List.set_cons_succ]
            refine wpAnyH_take (i := 21) (oi := _) (v := .bool false) rfl (by kernel_rfl) (by kernel_rfl) (by kernel_rfl) (fun _ _ _ h => h) (Or.inl ⟨by rfl, ?_⟩) (by assumption) ?_
            · (intro w hSw; clear hSw; go_simp; (try with_reducible rfl))
            simp only [Act.put, List.getElem_toArray, List.getElem_cons_succ, List.getElem_cons_zero, List.setIfInBounds_toArray, List.set_cons_zero, List.set_cons_succ]
            refine wpAnyH_done (by kernel_rfl) ?_ _
            clear hsS
            go_wp2_with fail
            go_ret
            rw [HSTE.out.1, HSTE.out.2]
            exact ⟨⟨false, by first | rfl | simp, HBB.out⟩, x, HP10.out.keep (by (repeat (first | exact Grow.refl _ | refine Grow.drew ?_ | refine Grow.drewN ?_ _)))⟩
          | true =>
            cases bn <;> cases bm
            · go_region_held3 (fun w' => w'.cell? ⟨pb, 1, none⟩ = some (.pointer (some ⟨c, 0, none⟩)) ∧ w'.cell? ⟨pb, 3, none⟩ = some (.pointer (some ⟨d, 0, none⟩)) ∧ w'.cell? ⟨d, 2, none⟩ = some (.bool ft)) (first | exact hsS) ((go_at_call 18; refine (card_freshC (HP10.out.cd.keep ?_)).mono ?_; (repeat (first | exact Grow.refl _ | refine Grow.drew ?_ | refine Grow.drewN ?_ _)); rw [← HFR.out]; rintro r w11 ⟨rfl, rfl⟩))
              all_goals
                go_wp2_with fail
                go_ret
                rw [HSTE.out.1, HSTE.out.2]
                exact ⟨⟨fr == ft, by first | rfl | simp, fun q => by rw [(HEQ.out q).2.2]; exact beq_self_eq_true _⟩, x, HP10.out.keep (by (repeat (first | exact Grow.refl _ | refine Grow.drew ?_ | refine Grow.drewN ?_ _)))⟩
            · refine wp_region_held_drew (S := fun w' => w'.cell? ⟨pb, 1, none⟩ = some (.pointer (some ⟨c, 0, none⟩)) ∧ w'.cell? ⟨pb, 3, none⟩ = some (.pointer (some ⟨d, 0, none⟩)) ∧ w'.cell? ⟨d, 2, none⟩ = some (.bool ft)) (by kernel_rfl) ?_ (fun hHeld => ?_)
              · exact hsS
              refine wpAnyH_take (i := 0) (oi := _) (v := .bool true) rfl (by kernel_rfl) (by kernel_rfl) (by kernel_rfl) (fun _ _ _ h => h) (Or.inl ⟨by rfl, ?_⟩) (by assumption) ?_
              · (intro w hSw; clear hSw; go_simp; (try with_reducible rfl))
              simp only [Act.put, List.getElem_toArray, List.getElem_cons_zero, List.setIfInBounds_toArray, List.set_cons_zero, List.set_cons_succ]
              refine wpAnyH_take (i := 1) (oi := _) (v := .bool true) rfl (by kernel_rfl) (by kernel_rfl) (by kernel_rfl) (fun _ _ _ h => h) (Or.inl ⟨by rfl, ?_⟩) (by assumption) ?_
              · (intro w hSw; clear hSw; go_simp; (try with_reducible rfl))
              simp only [Act.put, List.getElem_toArray, List.getElem_cons_succ, List.getElem_cons_zero, List.setIfInBounds_toArray, List.set_cons_zero, List.set_cons_succ]
              refine wpAnyH_take (i := 2) (oi := _) (v := .bool false) rfl (by kernel_rfl) (by kernel_rfl) (by kernel_rfl) (fun _ _ _ h => h) (Or.inl ⟨by rfl, ?_⟩) (by assumption) ?_
              · (intro w hSw; clear hSw; go_simp; (try with_reducible rfl))
              simp only [Act.put, List.getElem_toArray, List.getElem_cons_succ, List.getElem_cons_zero, List.setIfInBounds_toArray, List.set_cons_zero, List.set_cons_succ]
              refine wpAnyH_take (i := 3) (oi := _) (v := .bool true) rfl (by kernel_rfl) (by kernel_rfl) (by kernel_rfl) (fun _ _ _ h => h) (Or.inl ⟨by rfl, ?_⟩) (by assumption) ?_
              · (intro w hSw; clear hSw; go_simp; (try with_reducible rfl))
              simp only [Act.put, List.getElem_toArray, List.getElem_cons_succ, List.getElem_cons_zero, List.setIfInBounds_toArray, List.set_cons_zero, List.set_cons_succ]
              refine wpAnyH_take (i := 4) (oi := _) (v := .bool false) rfl (by kernel_rfl) (by kernel_rfl) (by kernel_rfl) (fun _ _ _ h => h) (Or.inl ⟨by rfl, ?_⟩) (by assumption) ?_
              · (intro w hSw; clear hSw; go_simp; (try with_reducible rfl))
              simp only [Act.put, List.getElem_toArray, List.getElem_cons_succ, List.getElem_cons_zero, List.setIfInBounds_toArray, List.set_cons_zero, List.set_cons_succ]
              refine wpAnyH_take (i := 5) (oi := _) (v := .bool false) rfl (by kernel_rfl) (by kernel_rfl) (by kernel_rfl) (fun _ _ _ h => h) (Or.inl ⟨by rfl, ?_⟩) (by assumption) ?_
              · (intro w hSw; clear hSw; go_simp; (try with_reducible rfl))
              simp only [Act.put, List.getElem_toArray, List.getElem_cons_succ, List.getElem_cons_zero, List.setIfInBounds_toArray, List.set_cons_zero, List.set_cons_succ]
              refine wpAnyH_take (i := 6) (oi := _) (v := .bool false) rfl (by kernel_rfl) (by kernel_rfl) (by kernel_rfl) (fun _ _ _ h => h) (Or.inl ⟨by rfl, ?_⟩) (by assumption) ?_
              · (intro w hSw; clear hSw; go_simp; (try with_reducible rfl))
              simp only [Act.put, List.getElem_toArray, List.getElem_cons_succ, List.getElem_cons_zero, List.setIfInBounds_toArray, List.set_cons_zero, List.set_cons_succ]
              refine wpAnyH_take (i := 7) (oi := _) (v := undef) rfl (by kernel_rfl) (by kernel_rfl) (by kernel_rfl) (fun _ _ _ h => h) (Or.inr ⟨by rfl, rfl⟩) (by assumption) ?_
              simp only [Act.put, List.getElem_toArray, List.getElem_cons_succ, List.getElem_cons_zero, List.setIfInBounds_toArray, List.set_cons_zero, List.set_cons_succ]
              refine wpAnyH_take (i := 8) (oi := _) (v := undef) rfl (by kernel_rfl) (by kernel_rfl) (by kernel_rfl) (fun _ _ _ h => h) (Or.inr ⟨by rfl, rfl⟩) (by assumption) ?_
              simp only [Act.put, List.getElem_toArray, List.getElem_cons_succ, List.getElem_cons_zero, List.setIfInBounds_toArray, List.set_cons_zero, List.set_cons_succ]
              refine wpAnyH_take (i := 9) (oi := _) (v := undef) rfl (by kernel_rfl) (by kernel_rfl) (by kernel_rfl) (fun _ _ _ h => h) (Or.inr ⟨by rfl, rfl⟩) (by assumption) ?_
              simp only [Act.put, List.getElem_toArray, List.getElem_cons_succ, List.getElem_cons_zero, List.setIfInBounds_toArray, List.set_cons_zero, List.set_cons_succ]
              refine wpAnyH_take (i := 10) (oi := _) (v := undef) rfl (by kernel_rfl) (by kernel_rfl) (by kernel_rfl) (fun _ _ _ h => h) (Or.inr ⟨by rfl, rfl⟩) (by assumption) ?_
              simp only [Act.put, List.getElem_toArray, List.getElem_cons_succ, List.getElem_cons_zero, List.setIfInBounds_toArray, List.set_cons_zero, List.set_cons_succ]
              refine wpAnyH_take (i := 11) (oi := _) (v := undef) rfl (by kernel_rfl) (by kernel_rfl) (by kernel_rfl) (fun _ _ _ h => h) (Or.inr ⟨by rfl, rfl⟩) (by assumption) ?_
              simp only [Act.put, List.getElem_toArray, List.getElem_cons_succ, List.getElem_cons_zero, List.setIfInBounds_toArray, List.set_cons_zero, List.set_cons_succ]
              refine wpAnyH_take (i := 12) (oi := _) (v := undef) rfl (by kernel_rfl) (by kernel_rfl) (by kernel_rfl) (fun _ _ _ h => h) (Or.inr ⟨by rfl, rfl⟩) (by assumption) ?_
              simp only [Act.put, List.getElem_toArray, List.getElem_cons_succ, List.getElem_cons_zero, List.setIfInBounds_toArray, List.set_cons_zero, List.set_cons_succ]
              refine wpAnyH_take (i := 13) (oi := _) (v := undef) rfl (by kernel_rfl) (by kernel_rfl) (by kernel_rfl) (fun _ _ _ h => h) (Or.inr ⟨by rfl, rfl⟩) (by assumption) ?_
              simp only [Act.put, List.getElem_toArray, List.getElem_cons_succ, List.getElem_cons_zero, List.setIfInBounds_toArray, List.set_cons_zero, List.set_cons_succ]
              refine wpAnyH_take (i := 14) (oi := _) (v := undef) rfl (by kernel_rfl) (by kernel_rfl) (by kernel_rfl) (fun _ _ _ h => h) (Or.inr ⟨by rfl, rfl⟩) (by assumption) ?_
              simp only [Act.put, List.getElem_toArray, List.getElem_cons_succ, List.getElem_cons_zero, List.setIfInBounds_toArray, List.set_cons_zero, List.set_cons_succ]
              refine wpAnyH_take (i := 15) (oi := _) (v := undef) rfl (by kernel_rfl) (by kernel_rfl) (by kernel_rfl) (fun _ _ _ h => h) (Or.inr ⟨by rfl, rfl⟩) (by assumption) ?_
              simp only [Act.put, List.getElem_toArray, List.getElem_cons_succ, List.getElem_cons_zero, List.setIfInBounds_toArray, List.set_cons_zero, List.set_cons_succ]
              refine wpAnyH_take (i := 16) (oi := _) (v := undef) rfl (by kernel_rfl) (by kernel_rfl) (by kernel_rfl) (fun _ _ _ h => h) (Or.inr ⟨by rfl, rfl⟩) (by assumption) ?_
              simp only [Act.put, List.getElem_toArray, List.getElem_cons_succ, List.getElem_cons_zero, List.setIfInBounds_toArray, List.set_cons_zero, List.set_cons_succ]
              refine wpAnyH_take (i := 17) (oi := _) (v := undef) rfl (by kernel_rfl) (by kernel_rfl) (by kernel_rfl) (fun _ _ _ h => h) (Or.inr ⟨by rfl, rfl⟩) (by assumption) ?_
              simp only [Act.put, List.getElem_toArray, List.getElem_cons_succ, List.getElem_cons_zero, List.setIfInBounds_toArray, List.set_cons_zero, List.set_cons_succ]
              refine wpAnyH_take (i := 18) (oi := _) (v := undef) rfl (by kernel_rfl) (by kernel_rfl) (by kernel_rfl) (fun _ _ _ h => h) (Or.inr ⟨by rfl, rfl⟩) (by assumption) ?_
              simp only [Act.put, List.getElem_toArray, List.getElem_cons_succ, List.getElem_cons_zero, List.setIfInBounds_toArray, List.set_cons_zero, List.set_cons_succ]
              refine wpAnyH_take (i := 19) (oi := _) (v := undef) rfl (by kernel_rfl) (by kernel_rfl) (by kernel_rfl) (fun _ _ _ h => h) (Or.inr ⟨by rfl, rfl⟩) (by assumption) ?_
              simp only [Act.put, List.getElem_toArray, List.getElem_cons_succ, List.getElem_cons_zero, List.setIfInBounds_toArray, List.set_cons_zero, List.set_cons_succ]
              refine wpAnyH_take (i := 20) (oi := _) (v := .bool false) rfl (by kernel_rfl) (by kernel_rfl) (by kernel_rfl) (fun _ _ _ h => h) (Or.inl ⟨by rfl, ?_⟩) (by assumption) ?_
              · (intro w hSw; clear hSw; go_simp; (try with_reducible rfl))
              simp only [Act.put, List.getElem_toArray, List.getElem_cons_succ, List.getElem_cons_zero, List.setIfInBounds_toArray, List.set_cons_zero, List.set_cons_succ]
              refine wpAnyH_take (i := 21) (oi := _) (v := .bool false) rfl (by kernel_rfl) (by kernel_rfl) (by kernel_rfl) (fun _ _ _ h => h) (Or.inl ⟨by rfl, ?_⟩) (by assumption) ?_
              · (intro w hSw; clear hSw; go_simp; (try with_reducible rfl))
              simp only [Act.put, List.getElem_toArray, List.getElem_cons_succ, List.getElem_cons_zero, List.setIfInBounds_toArray, List.set_cons_zero, List.set_cons_succ]
              refine wpAnyH_done (by kernel_rfl) ?_ _
              clear hsS
              go_wp2_with fail
              go_ret
              rw [HSTE.out.1, HSTE.out.2]
              exact ⟨⟨false, by first | rfl | simp, fun q => absurd (HEQ.out q).2.1 (by decide)⟩, x, HP10.out.keep (by (repeat (first | exact Grow.refl _ | refine Grow.drew ?_ | refine Grow.drewN ?_ _)))⟩
            · refine wp_region_held_drew (S := fun w' => w'.cell? ⟨pb, 1, none⟩ = some (.pointer (some ⟨c, 0, none⟩)) ∧ w'.cell? ⟨pb, 3, none⟩ = some (.pointer (some ⟨d, 0, none⟩)) ∧ w'.cell? ⟨d, 2, none⟩ = some (.bool ft)) (by kernel_rfl) ?_ (fun hHeld => ?_)
              · exact hsS
              refine wpAnyH_take (i := 0) (oi := _) (v := .bool true) rfl (by kernel_rfl) (by kernel_rfl) (by kernel_rfl) (fun _ _ _ h => h) (Or.inl ⟨by rfl, ?_⟩) (by assumption) ?_
              · (intro w hSw; clear hSw; go_simp; (try with_reducible rfl))
              simp only [Act.put, List.getElem_toArray, List.getElem_cons_zero, List.setIfInBounds_toArray, List.set_cons_zero, List.set_cons_succ]
              refine wpAnyH_take (i := 1) (oi := _) (v := .bool true) rfl (by kernel_rfl) (by kernel_rfl) (by kernel_rfl) (fun _ _ _ h => h) (Or.inl ⟨by rfl, ?_⟩) (by assumption) ?_
              · (intro w hSw; clear hSw; go_simp; (try with_reducible rfl))
              simp only [Act.put, List.getElem_toArray, List.getElem_cons_succ, List.getElem_cons_zero, List.setIfInBounds_toArray, List.set_cons_zero, List.set_cons_succ]
              refine wpAnyH_take (i := 2) (oi := _) (v := .bool true) rfl (by kernel_rfl) (by kernel_rfl) (by kernel_rfl) (fun _ _ _ h => h) (Or.inl ⟨by rfl, ?_⟩) (by assumption) ?_
              · (intro w hSw; clear hSw; go_simp; (try with_reducible rfl))
              simp only [Act.put, List.getElem_toArray, List.getElem_cons_succ, List.getElem_cons_zero, List.setIfInBounds_toArray, List.set_cons_zero, List.set_cons_succ]
              refine wpAnyH_take (i := 3) (oi := _) (v := .bool false) rfl (by kernel_rfl) (by kernel_rfl) (by kernel_rfl) (fun _ _ _ h => h) (Or.inl ⟨by rfl, ?_⟩) (by assumption) ?_
              · (intro w hSw; clear hSw; go_simp; (try with_reducible rfl))
              simp only [Act.put, List.getElem_toArray, List.getElem_cons_succ, List.getElem_cons_zero, List.setIfInBounds_toArray, List.set_cons_zero, List.set_cons_succ]
              refine wpAnyH_take (i := 4) (oi := _) (v := .bool false) rfl (by kernel_rfl) (by kernel_rfl) (by kernel_rfl) (fun _ _ _ h => h) (Or.inl ⟨by rfl, ?_⟩) (by assumption) ?_
              · (intro w hSw; clear hSw; go_simp; (try with_reducible rfl))
              simp only [Act.put, List.getElem_toArray, List.getElem_cons_succ, List.getElem_cons_zero, List.setIfInBounds_toArray, List.set_cons_zero, List.set_cons_succ]
              refine wpAnyH_take (i := 5) (oi := _) (v := .bool false) rfl (by kernel_rfl) (by kernel_rfl) (by kernel_rfl) (fun _ _ _ h => h) (Or.inl ⟨by rfl, ?_⟩) (by assumption) ?_
              · (intro w hSw; clear hSw; go_simp; (try with_reducible rfl))
              simp only [Act.put, List.getElem_toArray, List.getElem_cons_succ, List.getElem_cons_zero, List.setIfInBounds_toArray, List.set_cons_zero, List.set_cons_succ]
              refine wpAnyH_take (i := 6) (oi := _) (v := .bool false) rfl (by kernel_rfl) (by kernel_rfl) (by kernel_rfl) (fun _ _ _ h => h) (Or.inl ⟨by rfl, ?_⟩) (by assumption) ?_
              · (intro w hSw; clear hSw; go_simp; (try with_reducible rfl))
              simp only [Act.put, List.getElem_toArray, List.getElem_cons_succ, List.getElem_cons_zero, List.setIfInBounds_toArray, List.set_cons_zero, List.set_cons_succ]
              refine wpAnyH_take (i := 7) (oi := _) (v := undef) rfl (by kernel_rfl) (by kernel_rfl) (by kernel_rfl) (fun _ _ _ h => h) (Or.inr ⟨by rfl, rfl⟩) (by assumption) ?_
              simp only [Act.put, List.getElem_toArray, List.getElem_cons_succ, List.getElem_cons_zero, List.setIfInBounds_toArray, List.set_cons_zero, List.set_cons_succ]
              refine wpAnyH_take (i := 8) (oi := _) (v := undef) rfl (by kernel_rfl) (by kernel_rfl) (by kernel_rfl) (fun _ _ _ h => h) (Or.inr ⟨by rfl, rfl⟩) (by assumption) ?_
              simp only [Act.put, List.getElem_toArray, List.getElem_cons_succ, List.getElem_cons_zero, List.setIfInBounds_toArray, List.set_cons_zero, List.set_cons_succ]
              refine wpAnyH_take (i := 9) (oi := _) (v := undef) rfl (by kernel_rfl) (by kernel_rfl) (by kernel_rfl) (fun _ _ _ h => h) (Or.inr ⟨by rfl, rfl⟩) (by assumption) ?_
              simp only [Act.put, List.getElem_toArray, List.getElem_cons_succ, List.getElem_cons_zero, List.setIfInBounds_toArray, List.set_cons_zero, List.set_cons_succ]
              refine wpAnyH_take (i := 10) (oi := _) (v := undef) rfl (by kernel_rfl) (by kernel_rfl) (by kernel_rfl) (fun _ _ _ h => h) (Or.inr ⟨by rfl, rfl⟩) (by assumption) ?_
              simp only [Act.put, List.getElem_toArray, List.getElem_cons_succ, List.getElem_cons_zero, List.setIfInBounds_toArray, List.set_cons_zero, List.set_cons_succ]
              refine wpAnyH_take (i := 11) (oi := _) (v := undef) rfl (by kernel_rfl) (by kernel_rfl) (by kernel_rfl) (fun _ _ _ h => h) (Or.inr ⟨by rfl, rfl⟩) (by assumption) ?_
              simp only [Act.put, List.getElem_toArray, List.getElem_cons_succ, List.getElem_cons_zero, List.setIfInBounds_toArray, List.set_cons_zero, List.set_cons_succ]
              refine wpAnyH_take (i := 12) (oi := _) (v := undef) rfl (by kernel_rfl) (by kernel_rfl) (by kernel_rfl) (fun _ _ _ h => h) (Or.inr ⟨by rfl, rfl⟩) (by assumption) ?_
              simp only [Act.put, List.getElem_toArray, List.getElem_cons_succ, List.getElem_cons_zero, List.setIfInBounds_toArray, List.set_cons_zero, List.set_cons_succ]
              refine wpAnyH_take (i := 13) (oi := _) (v := undef) rfl (by kernel_rfl) (by kernel_rfl) (by kernel_rfl) (fun _ _ _ h => h) (Or.inr ⟨by rfl, rfl⟩) (by assumption) ?_
              simp only [Act.put, List.getElem_toArray, List.getElem_cons_succ, List.getElem_cons_zero, List.setIfInBounds_toArray, List.set_cons_zero, List.set_cons_succ]
              refine wpAnyH_take (i := 14) (oi := _) (v := undef) rfl (by kernel_rfl) (by kernel_rfl) (by kernel_rfl) (fun _ _ _ h => h) (Or.inr ⟨by rfl, rfl⟩) (by assumption) ?_
              simp only [Act.put, List.getElem_toArray, List.getElem_cons_succ, List.getElem_cons_zero, List.setIfInBounds_toArray, List.set_cons_zero, List.set_cons_succ]
              refine wpAnyH_take (i := 15) (oi := _) (v := undef) rfl (by kernel_rfl) (by kernel_rfl) (by kernel_rfl) (fun _ _ _ h => h) (Or.inr ⟨by rfl, rfl⟩) (by assumption) ?_
              simp only [Act.put, List.getElem_toArray, List.getElem_cons_succ, List.getElem_cons_zero, List.setIfInBounds_toArray, List.set_cons_zero, List.set_cons_succ]
              refine wpAnyH_take (i := 16) (oi := _) (v := undef) rfl (by kernel_rfl) (by kernel_rfl) (by kernel_rfl) (fun _ _ _ h => h) (Or.inr ⟨by rfl, rfl⟩) (by assumption) ?_
              simp only [Act.put, List.getElem_toArray, List.getElem_cons_succ, List.getElem_cons_zero, List.setIfInBounds_toArray, List.set_cons_zero, List.set_cons_succ]
              refine wpAnyH_take (i := 17) (oi := _) (v := undef) rfl (by kernel_rfl) (by kernel_rfl) (by kernel_rfl) (fun _ _ _ h => h) (Or.inr ⟨by rfl, rfl⟩) (by assumption) ?_
              simp only [Act.put, List.getElem_toArray, List.getElem_cons_succ, List.getElem_cons_zero, List.setIfInBounds_toArray, List.set_cons_zero, List.set_cons_succ]
              refine wpAnyH_take (i := 18) (oi := _) (v := undef) rfl (by kernel_rfl) (by kernel_rfl) (by kernel_rfl) (fun _ _ _ h => h) (Or.inr ⟨by rfl, rfl⟩) (by assumption) ?_
              simp only [Act.put, List.getElem_toArray, List.getElem_cons_succ, List.getElem_cons_zero, List.setIfInBounds_toArray, List.set_cons_zero, List.set_cons_succ]
              refine wpAnyH_take (i := 19) (oi := _) (v := undef) rfl (by kernel_rfl) (by kernel_rfl) (by kernel_rfl) (fun _ _ _ h => h) (Or.inr ⟨by rfl, rfl⟩) (by assumption) ?_
              simp only [Act.put, List.getElem_toArray, List.getElem_cons_succ, List.getElem_cons_zero, List.setIfInBounds_toArray, List.set_cons_zero, List.set_cons_succ]
              refine wpAnyH_take (i := 20) (oi := _) (v := .bool false) rfl (by kernel_rfl) (by kernel_rfl) (by kernel_rfl) (fun _ _ _ h => h) (Or.inl ⟨by rfl, ?_⟩) (by assumption) ?_
              · (intro w hSw; clear hSw; go_simp; (try with_reducible rfl))
              simp only [Act.put, List.getElem_toArray, List.getElem_cons_succ, List.getElem_cons_zero, List.setIfInBounds_toArray, List.set_cons_zero, List.set_cons_succ]
              refine wpAnyH_take (i := 21) (oi := _) (v := .bool false) rfl (by kernel_rfl) (by kernel_rfl) (by kernel_rfl) (fun _ _ _ h => h) (Or.inl ⟨by rfl, ?_⟩) (by assumption) ?_
              · (intro w hSw; clear hSw; go_simp; (try with_reducible rfl))
              simp only [Act.put, List.getElem_toArray, List.getElem_cons_succ, List.getElem_cons_zero, List.setIfInBounds_toArray, List.set_cons_zero, List.set_cons_succ]
              refine wpAnyH_done (by kernel_rfl) ?_ _
              clear hsS
              go_wp2_with fail
              go_ret
              rw [HSTE.out.1, HSTE.out.2]
              exact ⟨⟨false, by first | rfl | simp, fun q => absurd (HEQ.out q).2.1 (by decide)⟩, x, HP10.out.keep (by (repeat (first | exact Grow.refl _ | refine Grow.drew ?_ | refine Grow.drewN ?_ _)))⟩
            · go_region_held3 (fun w' => w'.cell? ⟨pb, 1, none⟩ = some (.pointer (some ⟨c, 0, none⟩)) ∧ w'.cell? ⟨pb, 3, none⟩ = some (.pointer (some ⟨d, 0, none⟩)) ∧ w'.cell? ⟨d, 2, none⟩ = some (.bool ft)) (first | exact hsS) ((go_at_call 18; refine (card_freshC (HP10.out.cd.keep ?_)).mono ?_; (repeat (first | exact Grow.refl _ | refine Grow.drew ?_ | refine Grow.drewN ?_ _)); rw [← HFR.out]; rintro r w11 ⟨rfl, rfl⟩))
              all_goals
                go_wp2_with fail
                go_ret
                rw [HSTE.out.1, HSTE.out.2]
                exact ⟨⟨fr == ft, by first | rfl | simp, fun q => by rw [(HEQ.out q).2.2]; exact beq_self_eq_true _⟩, x, HP10.out.keep (by (repeat (first | exact Grow.refl _ | refine Grow.drew ?_ | refine Grow.drewN ?_ _)))⟩
theorem does20 {W w : World} {pb : Nat} {s : CS} (h : B20 W w pb s) {e : Dq} (he : e.ok W) :
    Calls Tryz.prog 7 #[.pointer (some ⟨pb, 0, none⟩), .agg e.cells.toArray] w fun r w' => r = .returned (.bool true) ∧ B20 W w' pb (stepD s e) := by
  obtain ⟨c, d, z, x, y, h⟩ := h
  refine (does20T h he).mono ?_
  rintro r w' ⟨⟨b, rfl, hb⟩, x', k⟩
  rw [hb rfl]
  exact ⟨rfl, c, d, z, x', y, k.toP20⟩
end Go.Proofs.YtdlcpfgogjcciaaGreat
