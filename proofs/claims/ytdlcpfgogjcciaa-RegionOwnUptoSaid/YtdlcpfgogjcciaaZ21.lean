/- Put and Same of the document as the card's walks want them. What lies about while the document's Do is walked. The card's small verbs. Rows of noughts that a call makes. No statement of the seat is proved here. -/
import Derived.Test.YtdlcpfgogjcciaaZ20
import Derived.Test.YtdlcpfgogjcciaaZ11
import Derived.Test.YtdlcpfgogjcciaaZ17
import Derived.Test.YtdlcpfgogjcciaaZ14
import Derived.Test.YtdlcpfgogjcciaaZ02
namespace Go.Proofs.Ytdlcpfgogjcciaa
open Go.RowKit Go.Great

theorem m_putK {w : World} {A : Option Addr} {k c : Nat} (p : PK) (hp : p.ok) (hk : k = p.names.length) (hr : RS w A k p.names) :
    Calls Try.prog 35 #[.agg (p.cells (.slice A k c)).toArray] w fun e w' => ∃ A' n' c', e = .returned (.tuple #[.slice A' n' c', .int .i64 (putE p)]) ∧ Own w' w.heap.size A' n' c' (wputL p) ∧ Grow w w' := by
  subst hk
  refine (m_put p hp hr).mono ?_
  rintro e w' ⟨h, g⟩
  obtain ⟨A', n', c', h1, h2⟩ := h.form
  exact ⟨A', n', c', h1, h2, g⟩
theorem m_sameK {w : World} (p q : PK) {A A' : Option Addr} {k k' c c' : Nat} (hk : k = p.names.length) (hk' : k' = q.names.length) (hp : RS w A k p.names) (hq : RS w A' k' q.names) (hp3 : p.ok) (hq3 : q.ok) :
    Calls Try.prog 18 #[.agg (p.cells (.slice A k c)).toArray, .agg (q.cells (.slice A' k' c')).toArray] w fun e w' => ∃ b, e = .returned (.bool b) ∧ Hid (b = decide (p = q)) ∧ Grow w w' := by
  subst hk hk'
  refine (m_sameC p q hp hq hp3.names.1 hq3.names.1).mono ?_
  rintro e w' ⟨rfl, g⟩
  exact ⟨_, rfl, Lib.hid rfl, g⟩
end Go.Proofs.Ytdlcpfgogjcciaa

namespace Go.Proofs.Ytdlcpfgogjcciaa
open Go.RowKit Go.Great

def okV (p : PK) : Bool := if p.op = 2 then mayP p.client p.at_ p.n else if p.op = 3 then ownP p.client p.at_ p.n else if p.op = 4 then swapB p else ownP p.client p.at_ p.data.size
theorem verbV_no {m : MM} {p : PK} (h : okV p = false) : verbV m p = noV m p := by
  unfold okV at h
  unfold verbV
  split at h
  · rename_i k; rw [if_pos k]; unfold getV; rw [if_neg (by rw [h]; decide)]
  rename_i k2
  rw [if_neg k2]
  split at h
  · rename_i k; rw [if_pos k]; unfold flushV; rw [if_neg (by rw [h]; decide)]
  rename_i k3
  rw [if_neg k3]
  split at h
  · rename_i k; rw [if_pos k]; unfold swapV; rw [if_neg (by rw [h]; decide)]
  rename_i k4
  rw [if_neg k4]
  unfold putV; rw [if_neg (by rw [h]; decide)]
theorem verbV_yes {m : MM} {p : PK} (h : okV p = true) : (verbV m p).1.errno = 0 := by
  unfold okV at h
  unfold verbV
  split at h
  · rename_i k; rw [if_pos k]; unfold getV; rw [if_pos h]; rfl
  rename_i k2
  rw [if_neg k2]
  split at h
  · rename_i k; rw [if_pos k]; unfold flushV; rw [if_pos h]; rfl
  rename_i k3
  rw [if_neg k3]
  split at h
  · rename_i k; rw [if_pos k]; unfold swapV; rw [if_pos h]; rfl
  rename_i k4
  rw [if_neg k4]
  unfold putV; rw [if_pos h]; rfl
theorem okV_errno (m : MM) (p : PK) : okV p = decide ((verbV m p).1.errno = 0) := by
  cases h : okV p with
  | true => rw [verbV_yes h]; rfl
  | false => rw [verbV_no h]; rfl
theorem may_room {c a n : Int} (hc : 1 ≤ c ∧ c ≤ 8) (h : mayP c a n = true) : 1 ≤ n ∧ n ≤ 64 ∧ 0 ≤ a ∧ a + n ≤ 23168 := by
  unfold mayP at h
  rw [Bool.and_eq_true, Bool.or_eq_true] at h
  have h1 : 1 ≤ n ∧ n ≤ 64 := of_decide_eq_true h.1
  rcases h.2 with h2 | h2
  · obtain ⟨-, -, h3, h4⟩ := ownP_iff.1 h2
    omega
  · have h3 : 14976 ≤ a ∧ a + n ≤ 23168 ∧ _ := of_decide_eq_true h2
    omega
theorem Sl.part {w : World} {g L c a n : Nat} {bs : List UInt8} (h : Sl w (some ⟨g, 0, none⟩) L bs) (hc : L ≤ c) (hn : 0 < n) (ha : a + n ≤ L) : Sl w (some ⟨g, a, none⟩) n ((bs.drop a).take n) := by
  have h1 := (h.drop (k := a) (c := c) (by omega) hc).take (k := n) (by omega)
  rw [if_neg (by omega), Option.map_some, Addr.add_mid, Nat.zero_add] at h1
  exact h1
/-- The answer, but for its errno. -/
def preV (m : MM) (p : PK) : PK := if okV p = true then (verbV m p).1 else askP p

/-- What a verb has left behind the switch: its answer, but for the errno. -/
def VR (w wx : World) (y : MB) (g : Nat) (m : MM) (p : PK) : Prop := RM wx y 2896 (verbV m p).2.S (verbV m p).2.T (verbV m p).2.A ∧ Row wx g ((preV m p).cells (.slice none 0 0)) ∧ Turn (fun k => y.F k ∨ k = g) w wx
theorem VR.no {w wx : World} {y : MB} {g : Nat} {m : MM} {p : PK} (h : okV p = false) (k : RM w y 2896 m.S m.T m.A) (r : Row w g ((askP p).cells (.slice none 0 0))) (G : Grow w wx) : VR w wx y g m p := by
  unfold VR
  rw [verbV_no h, preV, if_neg (by rw [h]; decide)]
  exact ⟨k.keep G, r.keep G, Turn.grow G _⟩
theorem VR.yes {w wx : World} {y : MB} {g : Nat} {m m' : MM} {p a : PK} (h : okV p = true) (e : verbV m p = (a, m')) (k : RM wx y 2896 m'.S m'.T m'.A) (r : Row wx g (a.cells (.slice none 0 0))) (t : Turn (fun k => y.F k ∨ k = g) w wx) : VR w wx y g m p := by
  unfold VR
  rw [preV, if_pos h, e]
  exact ⟨k, r, t⟩
theorem VR.keep {w wx wz : World} {y : MB} {g : Nat} {m : MM} {p : PK} (h : VR w wx y g m p) (G : Grow wx wz) : VR w wz y g m p := ⟨h.1.keep G, h.2.1.keep G, h.2.2.andGrow G⟩

structure RoS (W w : World) (d z b r : Nat) (y : MB) (m : MM) (L : List Sd) (f : Bool) (p : PK) (nv : Value) (rc : List Value) : Prop where
  mem : RM w y 2896 m.S m.T m.A
  hd : Row w d [.pointer (some ⟨y.p, 0, none⟩), .slice (some ⟨z, 0, none⟩) 8 8, .bool f]
  hz : Row w z (cellsL L)
  pk : Row w b (p.cells nv)
  res : Row w r rc
  turn : Turn (fun k => y.F k ∨ k = d ∨ k = z) W w
  dF : ¬ y.F d
  zF : ¬ y.F z
  bF : ¬ y.F b
  rF : ¬ y.F r
  dz : ¬ d = z
  bd : ¬ b = d
  bz : ¬ b = z
  rd : ¬ r = d
  rz : ¬ r = z
  rb : ¬ r = b
  hb : W.heap.size ≤ b
  hr : W.heap.size ≤ r
  len : L.length = 8
section
variable {W w w' : World} {d z b r g : Nat} {y : MB} {m : MM} {L : List Sd} {f : Bool} {p : PK} {nv : Value} {rc : List Value}
theorem RoS.keep (h : RoS W w d z b r y m L f p nv rc) (G : Grow w w') : RoS W w' d z b r y m L f p nv rc :=
  { h with mem := h.mem.keep G, hd := h.hd.keep G, hz := h.hz.keep G, pk := h.pk.keep G, res := h.res.keep G, turn := h.turn.andGrow G }
theorem RoS.other (h : RoS W w d z b r y m L f p nv rc) (t : Turn (fun k => k = g) w w') (gF : ¬ y.F g) (gd : ¬ g = d) (gz : ¬ g = z) (gb : ¬ g = b) (gr : ¬ g = r) (hg : W.heap.size ≤ g) : RoS W w' d z b r y m L f p nv rc :=
  { h with mem := h.mem.turn t (fun k e => by rw [e]; exact gF), hd := h.hd.turnW t (fun e => gd e.symm), hz := h.hz.turnW t (fun e => gz e.symm), pk := h.pk.turnW t (fun e => gb e.symm), res := h.res.turnW t (fun e => gr e.symm),
           turn := h.turn.trans t (fun i e => .inr (by have e' : i = g := e; omega)) }
theorem RoS.setMem (h : RoS W w d z b r y m L f p nv rc) {m' : MM} (k : RM w' y 2896 m'.S m'.T m'.A) (t : Turn y.F w w') : RoS W w' d z b r y m' L f p nv rc :=
  { h with mem := k, hd := h.hd.turnW t h.dF, hz := h.hz.turnW t h.zF, pk := h.pk.turnW t h.bF, res := h.res.turnW t h.rF, turn := h.turn.and (t.mono fun _ e => .inl e) }
theorem RoS.verb (h : RoS W w d z b r y m L f p nv rc) (k : VR w w' y g m p) (gd : ¬ g = d) (gz : ¬ g = z) (gb : ¬ g = b) (gr : ¬ g = r) (hg : W.heap.size ≤ g) : RoS W w' d z b r y (verbV m p).2 L f p nv rc :=
  { h with mem := k.1, hd := h.hd.turnW k.2.2 (fun e => e.elim h.dF fun e => gd e.symm), hz := h.hz.turnW k.2.2 (fun e => e.elim h.zF fun e => gz e.symm), pk := h.pk.turnW k.2.2 (fun e => e.elim h.bF fun e => gb e.symm), res := h.res.turnW k.2.2 (fun e => e.elim h.rF fun e => gr e.symm),
           turn := h.turn.trans k.2.2 (fun i e => e.elim (fun e => .inl (.inl e)) (fun e => .inr (by have e' : i = g := e; omega))) }
theorem RoS.setFresh (h : RoS W w d z b r y m L f p nv rc) (f' : Bool) : RoS W (w.setCell ⟨d, 2, none⟩ (.bool f')) d z b r y m L f' p nv rc := by
  have t : Turn (fun k => k = d) w (w.setCell ⟨d, 2, none⟩ (.bool f')) := Turn.setCell (F := fun k => k = d) w (p := ⟨d, 2, none⟩) rfl _
  exact { h with mem := h.mem.turn t (fun k e => by rw [e]; exact h.dF), hd := h.hd.set (j := 2) (show 2 < 3 by decide), hz := h.hz.turnW t (fun e => h.dz e.symm), pk := h.pk.turnW t h.bd, res := h.res.turnW t h.rd, turn := h.turn.and (t.mono fun k e => .inr (.inl e)) }
theorem RoS.setRes (h : RoS W w d z b r y m L f p nv rc) {rc' : List Value} (k : Row w' r rc') (t : Turn (fun k => k = r) w w') : RoS W w' d z b r y m L f p nv rc' :=
  { h with mem := h.mem.turn t (fun k e => by rw [e]; exact h.rF), hd := h.hd.turnW t (fun e => h.rd e.symm), hz := h.hz.turnW t (fun e => h.rz e.symm), pk := h.pk.turnW t (fun e => h.rb e.symm), res := k,
           turn := h.turn.trans t (fun i e => .inr (by have := h.hr; have e' : i = r := e; omega)) }
theorem RoS.rd20 (h : RoS W w d z b r y m L f p nv rc) (hs : ∀ x ∈ L, x.ok) : RD20 w d z y ⟨m, L, f⟩ := ⟨h.mem, h.hd, h.hz, h.dF, h.zF, h.dz, h.len, hs⟩
theorem RoS.fresh (h : RoS W w d z b r y m L f p nv rc) : w.cell? ⟨d, 2, none⟩ = some (.bool f) ∧ w.frozen? ⟨d, 2, none⟩ = false := ⟨h.hd.1.2 2 _ rfl, h.hd.2 2 (show 2 < 3 by decide)⟩
theorem RoS.side (h : RoS W w d z b r y m L f p nv rc) {i q : Nat} {s : Sd} (hs : L[i]? = some s) (hq : q = 46 * i) : w.rangeAt z q s.cells := by
  have h1 := h.hz
  rw [cellsL_cut hs] at h1
  exact h1.1.range_mid ((take_len hs).trans hq.symm)
theorem RoS.setSide (h : RoS W w d z b r y m L f p nv rc) {i q : Nat} {s x : Sd} (hs : L[i]? = some s) (hq : q = 46 * i) : w.there z q 46 ∧ RoS W (w.setCells z q x.cells) d z b r y m (L.set i x) f p nv rc := by
  have k0 := h.hz
  rw [cellsL_cut hs] at k0
  have e0 := (take_len hs).trans hq.symm
  have k1 := k0.setMid e0 (new := x.cells) rfl
  rw [← cellsL_set hs] at k1
  have t := setCells_turn z x.cells q w
  exact ⟨k0.there_mid e0 (show 46 ≤ 46 by decide), { h with mem := h.mem.turn t (fun k e => by rw [e]; exact h.zF), hd := h.hd.turnW t h.dz, hz := k1, pk := h.pk.turnW t h.bz, res := h.res.turnW t h.rz, turn := h.turn.and (t.mono fun k e => .inr (.inr e)), len := by rw [List.length_set]; exact h.len }⟩
end
theorem wp_runTo {P : Program} {o : Oper} {a : Act} {w : World} {K : Act → World → Prop} {Q : Exit → Act → World → Prop} (d : Option Tmp) (hd : o.dst = d) (v : Value) (w' : World) (hrun : (execOp a.eval o).run P w = .ok (.value v) w') (h : K (a.put d v) w') : o.wp P a w K Q := by
  subst hd
  unfold Oper.wp
  rw [hrun, Oper.upon_value]
  exact h
theorem ref_ret {w : World} {r : Nat} {vs : List Value} {tmps : Array Value} {v : Value} (h2 : tmps.getD 4 undef = .pointer (some ⟨r, 0, none⟩)) (h3 : tmps.getD 5 undef = v) (hg : Blk w r vs) (hsz : vs.length = 43) :
    (results Try.f17 tmps).run Try.prog w = .ok (.tuple #[.agg vs.toArray, v]) w := by
  rw [results_cell_tmp Try.results17, h2, h3]
  simp only [asAddr, Sem.run_pure, Result.andThen_ok]
  rw [run_loadVar_mid (P := Try.prog) w r 0 36 vs _ hg.range Try.underlying36 rfl (by rw [hsz]; exact pk_size)]
  rfl
theorem sd_size : (Try.prog.info? 64).map (·.size) = some 46 := by kernel_rfl
theorem Sd.one (s : Sd) : s.cells.all (·.oneCell') = true := by
  show ((.int .i64 s.ep : Value).oneCell' && ((.int .i64 s.la : Value).oneCell' && (s.told.cells (.slice none 0 0) ++ [Value.bool s.had]).all (·.oneCell'))) = true
  rw [List.all_append, PK.one s.told rfl]
  rfl
theorem rm_storeAt {w wz : World} {x : MB} {m : MM} (h : RM w x 2896 m.S m.T m.A) (g : Grow w wz) {A : Option Addr} {n cc : Nat} {bs : List UInt8} (hk : 0 < n → ∀ p, A = some p → w.heap.size ≤ p.block) (hs : Sl wz A n bs) (a : Int) :
    Calls Try.prog 37 #[.pointer (some ⟨x.p, 0, none⟩), .int .i64 a, .slice A n cc] wz fun e w' => (∃ er, e = .returned (.int .i64 er)) ∧ RM w' x 2896 (m.store a bs).S (m.store a bs).T (m.store a bs).A ∧ Turn x.F wz w' ∧ Turn x.F w w' := by
  refine (rm_storeU (h.keep g) hs (fun h0 p hp q => ?_) a).mono ?_
  · have := h.lt _ q
    have := hk h0 p hp
    omega
  rintro e w' ⟨rfl, h5, t5⟩
  have hl : bs.length = n := hs.1
  refine ⟨⟨_, rfl⟩, ?_, t5, (Turn.grow g _).and t5⟩
  unfold MM.store
  rw [hl]
  exact h5
end Go.Proofs.Ytdlcpfgogjcciaa

namespace Go.Proofs.Ytdlcpfgogjcciaa
open Go.RowKit Go.Great

def isB (c : Int) : Bool := decide (1 ≤ c ∧ c ≤ 8)
theorem is_w (c : Int) (w : World) : Calls Try.prog 34 #[.int .i64 c] w fun e w' => e = .returned (.bool (isB c)) ∧ w = w' := by
  go_enter Try.func34, Try.ntmps34
  go_wp2
  all_goals (go_ret; refine ⟨ret_bool ?_, rfl⟩)
  all_goals (rw [Bool.eq_iff_iff]; simp [isB])
  all_goals omega
theorem side_size : (Try.prog.info? 75).map (·.size) = some 46 := by kernel_rfl
theorem CD.sideAt {w : World} {c : Nat} {x : MB} {s : CS} (h : CD w c x s) {k : Int} (hk : 1 ≤ k ∧ k ≤ 8) : w.rangeAt c (1 + (k.toNat - 1) * 46) (s.side k).cells := by
  have hs := h.2.2.2.at hk
  have h1 := h.2.1
  rw [cardC_cut hs] at h1
  exact h1.1.range_mid ((cardC_pre hs).trans (by omega))
theorem CD.setAt {w : World} {c : Nat} {x : MB} {s : CS} (h : CD w c x s) {k : Int} (hk : 1 ≤ k ∧ k ≤ 8) {v : Sd} (hv : v.ok) : w.there c (1 + (k.toNat - 1) * 46) 46 ∧ CD (w.setCells c (1 + (k.toNat - 1) * 46) v.cells) c x { s with L := s.setSide k v } := by
  have hs := h.2.2.2.at hk
  have h1 := h.2.1
  rw [cardC_cut hs] at h1
  have e0 : _ = 1 + (k.toNat - 1) * 46 := (cardC_pre (p0 := x.p) hs).trans (by omega)
  have k1 := h1.setMid e0 (new := v.cells) rfl
  rw [← cardC_set hs] at k1
  have t := setCells_turn c v.cells (1 + (k.toNat - 1) * 46) w
  exact ⟨h1.there_mid e0 (show 46 ≤ 46 by decide), h.1.turn t (fun j e => by rw [e]; exact h.2.2.1), k1, h.2.2.1, h.2.2.2.set hv k _ _⟩
set_option maxHeartbeats 4000000 in
set_option maxRecDepth 8000 in
theorem card_set {w : World} {c : Nat} {x : MB} {s : CS} (h : CD w c x s) (k e : Int) (he : i64B e) :
    Calls Try.prog 16 #[.pointer (some ⟨c, 0, none⟩), .int .i64 k, .int .i64 e] w fun r w' => r = .returned (.tuple #[]) ∧ CD w' c x (setP s k e) ∧ Turn (fun j => j = c) w w' := by
  go_enter Try.func16, Try.ntmps16
  go_wp2_with fail
  refine (is_w k _).mono ?_
  rintro r w1 ⟨rfl, rfl⟩
  by_cases hk : 1 ≤ k ∧ k ≤ 8
  · rw [show isB k = true from decide_eq_true hk]
    have hq : setP s k e = { s with L := s.setSide k { ep := e } } := by unfold setP; rw [if_pos hk]
    have HQ := Lib.hid hq
    have hv : ({ ep := e } : Sd).ok := ⟨he, zero_i64, zero_ok, rfl⟩
    have HS := Lib.hid (h.setAt hk hv)
    have b0 : 0 ≤ k - 1 := by omega
    have b1 : k - 1 < 8 := by omega
    have b2 : (k - 1).toNat < 8 := by omega
    have b3 : ¬ k < 1 := by omega
    have e6 : IntKind.i64.wrap (k - 1) = k - 1 := IntWalk.i64_in _ (by omega)
    have e1 : wrap64 (k - 1) = k - 1 := IntWalk.wrap64_in _ (by clear e6; omega)
    clear hq hv hk h he
    go_upto_region 1 with (fail)
    refine wp_region_list ?_
    refine wpList_runTo rfl (some 8) rfl (.pointer (some ⟨c, 0, none⟩)) w (by first | (go_simp; done) | rfl) ?_
    refine wpList_runTo rfl (some 9) rfl (.int .i64 k) w (by first | (go_simp; done) | rfl) ?_
    refine wpList_runTo rfl (some 10) rfl (.int .i64 (k - 1)) w (by go_simp) ?_
    refine wpList_runTo rfl (some 11) rfl (.int .i64 e) w (by first | (go_simp; done) | rfl) ?_
    refine wpList_buildTo rfl 75 _ rfl (some 12) rfl (({ ep := e } : Sd).cells).toArray (by kernel_rfl) ?_
    refine wpList_runTo rfl (some 13) rfl (.pointer (some ⟨c, 0, none⟩)) w (by first | (go_simp; done) | rfl) ?_
    refine wpList_runTo rfl (some 14) rfl (.pointer (some ⟨c, 1, none⟩)) w (by first | (go_simp; done) | rfl) ?_
    refine wpList_runTo rfl (some 15) rfl (.pointer (some ⟨c, 1 + (k.toNat - 1) * 46, none⟩)) w (by go_simp) ?_
    refine wpList_store_mid rfl 75 (.tmp 15) (.tmp 12) rfl c (1 + (k.toNat - 1) * 46) (({ ep := e } : Sd).cells).toArray (by first | (go_simp; done) | rfl) (by first | (go_simp; done) | rfl) (by rw [List.size_toArray]; exact HS.out.1) side_size (all_oneCell_toArray fun v hv => List.all_eq_true.1 (Sd.one _) v hv) ?_
    clear e1 e6
    go_wp2_with fail
    go_end0
    rw [HQ.out]
    exact ⟨rfl, HS.out.2, setCells_turn c _ _ w⟩
  · rw [show isB k = false from decide_eq_false hk]
    have hq : setP s k e = s := by unfold setP; rw [if_neg hk]
    go_wp2_with fail
    go_end0
    rw [hq]
    exact ⟨rfl, h, Turn.refl _ _⟩
theorem card_epoch {w : World} {c : Nat} {x : MB} {s : CS} (h : CD w c x s) (k : Int) :
    Calls Try.prog 26 #[.pointer (some ⟨c, 0, none⟩), .int .i64 k] w fun r w' => r = .returned (.int .i64 (if isB k = true then (s.side k).ep else 0)) ∧ w = w' := by
  obtain ⟨v, hv⟩ : ∃ v, v = (if isB k = true then (s.side k).ep else 0) := ⟨_, rfl⟩
  rw [← hv]
  have HV := Lib.hid hv
  clear hv
  go_enter Try.func26, Try.ntmps26
  go_wp2_with fail
  refine (is_w k _).mono ?_
  rintro r w1 ⟨rfl, rfl⟩
  by_cases hk : 1 ≤ k ∧ k ≤ 8
  · have HB := Lib.hid (show isB k = true from decide_eq_true hk)
    rw [HB.out]
    have b0 : 0 ≤ k - 1 := by omega
    have b1 : k - 1 < 8 := by omega
    have b2 : (k - 1).toNat < 8 := by omega
    have c0 : w.cell? ⟨c, 1 + (k.toNat - 1) * 46, none⟩ = some (.int .i64 (s.side k).ep) := h.sideAt hk 0 _ rfl
    have e1 : wrap64 (k - 1) = k - 1 := IntWalk.wrap64_in _ (by omega)
    clear h hk
    go_wp2_with fail
    go_ret
    exact ⟨by rw [HV.out, HB.out, if_pos rfl]; rfl, rfl⟩
  · have HB := Lib.hid (show isB k = false from decide_eq_false hk)
    rw [HB.out]
    go_wp2_with fail
    go_ret
    exact ⟨by rw [HV.out, HB.out, if_neg (by decide)]; rfl, rfl⟩
theorem card_freshC {w : World} {c : Nat} {x : MB} {s : CS} (h : CD w c x s) :
    Calls Try.prog 19 #[.pointer (some ⟨c, 0, none⟩)] w fun r w' => r = .returned (.bool s.fresh) ∧ w = w' := by
  have c0 := h.2.1.1.2 369 _ (cardC_freshAt h.2.2.2.len)
  clear h
  go_enter Try.func19, Try.ntmps19
  go_wp2_with fail
  go_ret
  exact ⟨rfl, rfl⟩

def newS (N : Nat) : CS := ⟨⟨List.replicate (8 * N) 0, List.replicate (8 * N) 0, List.replicate N false⟩, List.replicate 8 {}, false⟩
theorem newS_ok (N : Nat) : (newS N).ok := ⟨rfl, fun y hy => by rw [List.eq_of_mem_replicate hy]; exact zero_sd⟩
theorem new_none (w : World) : Calls Try.prog 11 #[.pointer none] w fun r w' => r = .returned (.pointer none) ∧ Grow w w' := by
  go_enter Try.func11, Try.ntmps11
  go_wp2_with fail
  go_ret
  exact ⟨rfl, Grow.refl _⟩
theorem new_small {w : World} {x : MB} {N : Nat} {S T : List UInt8} {A : List Bool} (h : PM w x N S T A) (hN : ¬ N = 2896) : Calls Try.prog 11 #[.pointer (some ⟨x.p, 0, none⟩)] w fun r w' => r = .returned (.pointer none) ∧ Grow w w' := by
  have hb := h.bound
  go_enter Try.func11, Try.ntmps11
  go_wp2_with fail
  refine (pm_size h).mono ?_
  rintro r w1 ⟨rfl, rfl⟩
  go_wp2_with fail
  refine (size_w _).mono ?_
  rintro r w1 ⟨rfl, g1⟩
  have z0 : ((N : Int) * 8 != 23168) = true := bne_iff_ne.2 (by omega)
  have z1 : ¬ (N : Int) * 8 = 23168 := by omega
  go_wp2_with fail
  go_ret
  exact ⟨rfl, g1⟩
set_option maxHeartbeats 4000000 in
set_option maxRecDepth 8000 in
theorem new_card {w : World} {x : MB} (h : PM w x 2896 (newS 2896).m.S (newS 2896).m.T (newS 2896).m.A) : Calls Try.prog 11 #[.pointer (some ⟨x.p, 0, none⟩)] w fun r w' => ∃ c, r = .returned (.pointer (some ⟨c, 0, none⟩)) ∧ CD w' c x (newS 2896) ∧ Grow w w' ∧ w.heap.size ≤ c := by
  have HM := Lib.hid h
  go_enter Try.func11, Try.ntmps11
  go_wp2_with fail
  refine (pm_size h).mono ?_
  rintro r w1 ⟨rfl, rfl⟩
  clear h
  go_wp2_with fail
  refine (size_w _).mono ?_
  rintro r w1 ⟨rfl, g1⟩
  have HG1 := Lib.hid (show Grow w w1 from g1)
  clear g1
  go_upto_region 3 with (fail)
  refine wp_region_list ?_
  refine wpList_runTo rfl (some 11) rfl (.pointer (some ⟨x.p, 0, none⟩)) w1 (by first | (go_simp; done) | rfl) ?_
  refine wpList_buildTo rfl 78 _ rfl (some 12) rfl (cardC x.p (newS 2896).L false).toArray (by kernel_rfl) ?_
  have hr := Row.new w1 78 (cardC x.p (newS 2896).L false) _ rfl
  have ga := (Grow.refl w1).alloc (.cells (cardC x.p (newS 2896).L false).toArray 78)
  refine wpList_boxTo rfl 78 (.tmp 12) rfl (some 13) rfl w1.heap.size rfl (cardC x.p (newS 2896).L false).toArray (by first | (go_simp; done) | rfl) ?_
  obtain ⟨w2, hw2⟩ : ∃ u, u = w1.alloc (.cells (cardC x.p (newS 2896).L false).toArray 78) := ⟨_, rfl⟩
  obtain ⟨c, hc⟩ : ∃ u, u = w1.heap.size := ⟨_, rfl⟩
  rw [← hw2] at hr ga ⊢
  rw [← hc] at hr ⊢
  have HC := Lib.hid hc
  have HGA := Lib.hid ga
  have HR := Lib.hid hr
  clear hw2 hc hr ga
  go_wp2_with fail
  go_ret
  have hg := HG1.out.size
  refine ⟨c, rfl, ⟨HM.out.keep (HG1.out.trans HGA.out), HR.out, fun q => ?_, newS_ok _⟩, HG1.out.trans HGA.out, by have := HC.out; omega⟩
  have := HM.out.lt _ q
  have := HC.out
  omega
end Go.Proofs.Ytdlcpfgogjcciaa

namespace Go.Proofs.Ytdlcpfgogjcciaa
open Go.RowKit

theorem bvs_replicate (n : Nat) : bvs (List.replicate n 0) = List.replicate n (.int .u8 0) := by simp [bvs, bv]

/-- 'make([]byte, n)'. -/
theorem wpList_makeB {w : World} {ops : Array Oper} {rest : List Oper} {o : Oper} {a : Act} {Q : Exit → Act → World → Prop}
    (hg : o.guard = none) (l c : Operand) (hop : o.op = Op.makeSlice 44 l c)
    (base : Nat) (L C : Int) (n : Nat) (hl : a.eval l = .int .i64 L) (hc : a.eval c = .int .i64 C) (hL : L = (n : Int)) (hC : C = (n : Int)) (hn : n ≤ 17592186044416) (hb : base ≤ w.heap.size)
    (hK : ∀ w', OB w' base (.slice (some ⟨w.heap.size, 0, none⟩) n n) (List.replicate n 0) → Below base w w' → w.grownBy w' none → wpList Try.prog ops Q rest (a.put o.dst (.slice (some ⟨w.heap.size, 0, none⟩) n n)) w') :
    wpList Try.prog ops Q (o :: rest) a w := by
  obtain ⟨i0, hi, hz, h1, h2⟩ := info_parts byte_info
  refine wpList_make_full w hg l c _ hop base 5 i0 (.int .u8 0) 1 Try.underlying44 hi hz h1 .i64 .i64 L C n hl hc hL hC (by rw [h2]; omega) (by unfold maxLen; omega) hb ?_
  intro w' ho hgr
  refine hK w' ?_ ((Below.refl _ _).grown hgr hb (fun k hk => by cases hk)) hgr
  unfold OB
  rw [List.length_replicate, bvs_replicate]
  have e : (madeCells (Value.int .u8 0).cells (n * 1)).toList = List.replicate n (.int .u8 0) := by
    rw [Nat.mul_one]; exact toList_madeCells_one _ _
  rw [e] at ho
  exact ho

/-- 'make([]byte, 0, n)'. -/
theorem wpList_make0 {w : World} {ops : Array Oper} {rest : List Oper} {o : Oper} {a : Act} {Q : Exit → Act → World → Prop}
    (hg : o.guard = none) (l c : Operand) (hop : o.op = Op.makeSlice 44 l c)
    (base : Nat) (C : Int) (n : Nat) (hl : a.eval l = .int .i64 0) (hc : a.eval c = .int .i64 C) (hC : C = (n : Int)) (hn : n ≤ 17592186044416) (hb : base ≤ w.heap.size)
    (hK : ∀ w', OB w' base (.slice (some ⟨w.heap.size, 0, none⟩) 0 n) [] → Below base w w' → w.grownBy w' none → wpList Try.prog ops Q rest (a.put o.dst (.slice (some ⟨w.heap.size, 0, none⟩) 0 n)) w') :
    wpList Try.prog ops Q (o :: rest) a w := by
  obtain ⟨i0, hi, hz, h1, h2⟩ := info_parts byte_info
  refine wpList_make_own w hg l c _ hop base 5 i0 (.int .u8 0) 1 Try.underlying44 hi hz h1 .i64 .i64 C n hl hc hC (by rw [h2]; omega) (by unfold maxLen; omega) hb ?_
  intro w' ho hgr
  exact hK w' ho ((Below.refl _ _).grown hgr hb (fun k hk => by cases hk)) hgr

end Go.Proofs.Ytdlcpfgogjcciaa
