/- What lies about while a card's Do is walked. The document's Same. No statement of the seat is proved here. -/
import Derived.Test.YtdlcpfgogjcciaaZ16
import Derived.Test.YtdlcpfgogjcciaaZ10
namespace Go.Proofs.Ytdlcpfgogjcciaa
open Go.RowKit Go.Great

structure DoS (W w : World) (c b r : Nat) (x : MB) (m : MM) (L : List Sd) (f : Bool) (p : PK) (nv : Value) (rc : List Value) : Prop where
  mem : PM w x 2896 m.S m.T m.A
  card : Row w c (cardC x.p L f)
  pk : Row w b (p.cells nv)
  res : Row w r rc
  turn : Turn (fun k => x.F k ∨ k = c) W w
  cF : ¬ x.F c
  bF : ¬ x.F b
  rF : ¬ x.F r
  bc : ¬ b = c
  rc : ¬ r = c
  rb : ¬ r = b
  hb : W.heap.size ≤ b
  hr : W.heap.size ≤ r
  len : L.length = 8
section
variable {W w w' : World} {c b r g : Nat} {x : MB} {m : MM} {L : List Sd} {f : Bool} {p : PK} {nv : Value} {rc : List Value}
theorem DoS.keep (h : DoS W w c b r x m L f p nv rc) (G : Grow w w') : DoS W w' c b r x m L f p nv rc :=
  { h with mem := h.mem.keep G, card := h.card.keep G, pk := h.pk.keep G, res := h.res.keep G, turn := h.turn.andGrow G }
theorem DoS.setCard (h : DoS W w c b r x m L f p nv rc) {L' : List Sd} {f' : Bool} (k : Row w' c (cardC x.p L' f')) (t : Turn (fun k => k = c) w w') (hl : L'.length = 8) : DoS W w' c b r x m L' f' p nv rc :=
  { h with mem := h.mem.turn t (fun k e => by rw [e]; exact h.cF), card := k, pk := h.pk.turnW t h.bc, res := h.res.turnW t h.rc, turn := h.turn.and (t.mono fun k e => .inr e), len := hl }
theorem DoS.setRes (h : DoS W w c b r x m L f p nv rc) {rc' : List Value} (k : Row w' r rc') (t : Turn (fun k => k = r) w w') : DoS W w' c b r x m L f p nv rc' :=
  { h with mem := h.mem.turn t (fun k e => by rw [e]; exact h.rF), card := h.card.turnW t (fun e => h.rc e.symm), pk := h.pk.turnW t (fun e => h.rb e.symm), res := k,
           turn := h.turn.trans t (fun i e => .inr (by have := h.hr; have e' : i = r := e; omega)) }
theorem DoS.verb (h : DoS W w c b r x m L f p nv rc) {o : PK × MM} (k : VDone w w' x g o) (gc : ¬ g = c) (gb : ¬ g = b) (gr : ¬ g = r) (hg : W.heap.size ≤ g) : DoS W w' c b r x o.2 L f p nv rc :=
  { h with mem := k.1, card := h.card.turnW k.2.2 (fun e => e.elim h.cF fun e => gc e.symm), pk := h.pk.turnW k.2.2 (fun e => e.elim h.bF fun e => gb e.symm), res := h.res.turnW k.2.2 (fun e => e.elim h.rF fun e => gr e.symm),
           turn := h.turn.trans k.2.2 (fun i e => e.elim (fun e => .inl (.inl e)) (fun e => .inr (by have e' : i = g := e; omega))) }
theorem DoS.other (h : DoS W w c b r x m L f p nv rc) (t : Turn (fun k => k = g) w w') (gF : ¬ x.F g) (gc : ¬ g = c) (gb : ¬ g = b) (gr : ¬ g = r) (hg : W.heap.size ≤ g) : DoS W w' c b r x m L f p nv rc :=
  { h with mem := h.mem.turn t (fun k e => by rw [e]; exact gF), card := h.card.turnW t (fun e => gc e.symm), pk := h.pk.turnW t (fun e => gb e.symm), res := h.res.turnW t (fun e => gr e.symm),
           turn := h.turn.trans t (fun i e => .inr (by have e' : i = g := e; omega)) }
theorem DoS.cd (h : DoS W w c b r x m L f p nv rc) (hs : ∀ y ∈ L, y.ok) : CD w c x ⟨m, L, f⟩ := ⟨h.mem, h.card, h.cF, h.len, hs⟩
theorem DoS.fresh (h : DoS W w c b r x m L f p nv rc) : w.cell? ⟨c, 369, none⟩ = some (.bool f) ∧ w.frozen? ⟨c, 369, none⟩ = false :=
  ⟨h.card.1.2 369 _ (cardC_freshAt h.len), h.card.2 369 (by rw [cardC_length h.len]; omega)⟩
theorem DoS.setFresh (h : DoS W w c b r x m L f p nv rc) (f' : Bool) : DoS W (w.setCell ⟨c, 369, none⟩ (.bool f')) c b r x m L f' p nv rc :=
  h.setCard (by rw [← cardC_fresh (f := f) h.len]; exact h.card.set (by rw [cardC_length h.len]; omega)) (Turn.setCell (F := fun k => k = c) w (p := ⟨c, 369, none⟩) rfl _) h.len
theorem DoS.ptr (h : DoS W w c b r x m L f p nv rc) : w.cell? ⟨c, 0, none⟩ = some (.pointer (some ⟨x.p, 0, none⟩)) := h.card.1.2 0 _ rfl
theorem DoS.side (h : DoS W w c b r x m L f p nv rc) {i q : Nat} {s : Sd} (hs : L[i]? = some s) (hq : q = 46 * i + 1) :
    w.cell? ⟨c, q, none⟩ = some (.int .i64 s.ep) ∧ w.cell? ⟨c, q + 1, none⟩ = some (.int .i64 s.la) ∧ w.rangeAt c (q + 2) (s.told.cells (.slice none 0 0)) ∧ w.cell? ⟨c, q + 45, none⟩ = some (.bool s.had) := by
  have h1 := h.card
  rw [cardC_cut hs] at h1
  have h2 := h1.1.range_mid (cardC_pre hs)
  rw [← hq] at h2
  exact ⟨h2 0 _ rfl, h2 1 _ rfl, range_sub (h := h2) (a := [.int .i64 s.ep, .int .i64 s.la]) (b := s.told.cells (.slice none 0 0)) (c := [.bool s.had]) rfl, h2 45 _ rfl⟩
theorem DoS.setSide (h : DoS W w c b r x m L f p nv rc) {i q : Nat} {s : Sd} (hs : L[i]? = some s) (hq : q = 46 * i + 1) {n : Int} {u : PK} {d : Bool} {w1 w2 w3 : World}
    (h1 : w1 = w.setCell ⟨c, q + 1, none⟩ (.int .i64 n)) (h2 : w2 = w1.setCells c (q + 2) (u.cells (.slice none 0 0))) (h3 : w3 = w2.setCell ⟨c, q + 45, none⟩ (.bool d)) :
    w.frozen? ⟨c, q + 1, none⟩ = false ∧ w1.there c (q + 2) 43 ∧ w2.cell? ⟨c, q + 45, none⟩ = some (.bool s.had) ∧ w2.frozen? ⟨c, q + 45, none⟩ = false ∧ DoS W w3 c b r x m (L.set i ⟨s.ep, n, u, d⟩) f p nv rc := by
  have k0 := h.card
  rw [cardC_cut hs] at k0
  have e0 := cardC_pre (p0 := x.p) hs
  rw [← hq] at e0
  have k1 := k0.setOne e0 (k := 1) (q := q + 1) (show 1 < 46 by decide) rfl (.int .i64 n)
  rw [← h1] at k1
  have k1' : Row w1 c ((Value.pointer (some ⟨x.p, 0, none⟩) :: cellsL (L.take i)) ++ [.int .i64 s.ep, .int .i64 n] ++ (s.told.cells (.slice none 0 0) ++ ([.bool s.had] ++ (cellsL (L.drop (i + 1)) ++ [.bool f])))) := by
    rw [List.append_assoc]
    exact k1
  have e1 : ((Value.pointer (some ⟨x.p, 0, none⟩) :: cellsL (L.take i)) ++ [Value.int .i64 s.ep, Value.int .i64 n]).length = q + 2 := by rw [List.length_append, e0]; rfl
  have k2 := k1'.setMid e1 (new := u.cells (.slice none 0 0)) rfl
  rw [← h2, List.append_assoc] at k2
  have k2' : Row w2 c ((Value.pointer (some ⟨x.p, 0, none⟩) :: cellsL (L.take i)) ++ ((⟨s.ep, n, u, s.had⟩ : Sd).cells ++ (cellsL (L.drop (i + 1)) ++ [.bool f]))) := k2
  have k3 := k2'.setOne e0 (k := 45) (q := q + 45) (show 45 < 46 by decide) rfl (.bool d)
  rw [← h3] at k3
  have k3' : Row w3 c (cardC x.p (L.set i ⟨s.ep, n, u, d⟩) f) := by
    rw [cardC_set hs]
    exact k3
  refine ⟨k0.frozen_mid e0 (k := 1) (show 1 < 46 by decide), k1'.there_mid e1 (show 43 ≤ 43 by decide), k2'.1.cell_mid e0 (k := 45) rfl, k2'.frozen_mid e0 (k := 45) (show 45 < 46 by decide), h.setCard k3' ?_ (by rw [List.length_set]; exact h.len)⟩
  rw [h3, h2, h1]
  exact ((Turn.setCell (F := fun k => k = c) w (p := ⟨c, q + 1, none⟩) rfl _).and (setCells_turn c _ _ _)).and (Turn.setCell (F := fun k => k = c) _ (p := ⟨c, q + 45, none⟩) rfl _)
end
theorem of_wanted {b : Bool} {P Q : Prop} (h : b = true) (hp : P) : if b = true then P else Q := by rw [if_pos h]; exact hp
theorem card_ret {w : World} {r : Nat} {vs : List Value} {tmps : Array Value} {v : Value} (h2 : tmps.getD 4 undef = .pointer (some ⟨r, 0, none⟩)) (h3 : tmps.getD 5 undef = v) (hg : Blk w r vs) (hsz : vs.length = 43) :
    (results Try.f8 tmps).run Try.prog w = .ok (.tuple #[.agg vs.toArray, v]) w := by
  rw [results_cell_tmp Try.results8, h2, h3]
  simp only [asAddr, Sem.run_pure, Result.andThen_ok]
  rw [run_loadVar_mid (P := Try.prog) w r 0 36 vs _ hg.range Try.underlying36 rfl (by rw [hsz]; exact pk_size)]
  rfl
end Go.Proofs.Ytdlcpfgogjcciaa

namespace Go.Proofs.Ytdlcpfgogjcciaa
open Go.RowKit
def sHead (b : Bool) (p q : PK) : Bool := b && decide (p.kind = q.kind) && decide (p.client = q.client) && decide (p.epoch = q.epoch) && decide (p.seq = q.seq) && decide (p.op = q.op) && decide (p.at_ = q.at_) && decide (p.n = q.n) && decide (p.data = q.data) && decide (p.old = q.old) && decide (p.new = q.new)
def sTail (p q : PK) : Bool := callB p q && decide (p.ino = q.ino) && decide (p.errno = q.errno) && decide (p.wrote = q.wrote) && nodeB p q && decide (p.rerrno = q.rerrno) && decide (p.rfd = q.rfd) && decide (p.rdata = q.rdata) && infoB p q

set_option maxHeartbeats 8000000 in
set_option maxRecDepth 8000 in
theorem ms_head {w : World} {x : Nat} (p q : PK) (nv nv' : Value) (nm : Bool) (hx : Blk w x (p.cells nv)) (hy : Blk w (x + 1) (q.cells nv')) (t0 t1 t4 t6 t7 t8 t9 t10 t11 t12 t13 t14 t15 t16 t17 t18 t19 t20 t21 t22 t23 t24 t25 t26 t27 t28 t29 t30 t31 t32 t33 t34 t35 t36 t37 t38 t39 t40 t41 t42 t43 t44 t45 t46 t47 t48 t49 t50 t51 t52 t53 t54 t55 t56 t57 t58 t59 t60 t61 t62 t63 t64 t65 t66 t67 t68 t69 t70 t71 t72 t73 t74 t75 t76 t77 t78 t79 t80 t81 t82 t83 t84 t85 t86 t87 t88 t89 t90 t91 t92 t93 t94 t95 t96 t97 t98 t99 t100 t101 t102 t103 t104 t105 t106 t107 t108 t109 t110 t111 t112 t113 t114 t115 t116 t117 t118 t119 t120 t121 t122 t123 t124 t125 t126 t127 t128 t129 t130 t131 t132 t133 t134 t135 t136 t137 t138 t139 t140 t141 t142 t143 t144 t145 t146 t147 t148 t149 t150 t151 t152 t153 : Value) (Q : Exit → Act → World → Prop)
    (hK : ∀ u13 u14 u15 u16 u17 u18 u19 u20 u21 u22 u23 u24 u25 u26 u27 u28 u29 u30 u31 u32 u33 u34 u35 u36 u37 u38 u39 u40 u41 u42 u43 u44 u45 u46 u47 u48 u49 u50 u51 u52 u53 u54 u55 u56 u57 u58 u59 u60 u61 u62 u63 u64 u65 u66 u67 u68 u69 u70 u71 u72 u73 u74 u75 u76 u77 u78 u79 u80 u81 u82 u83 : Value, Q .normal { tmps := #[t0, t1, .pointer (some ⟨x, 0, none⟩), .pointer (some ⟨x + 1, 0, none⟩), t4, .bool nm, t6, t7, t8, t9, t10, t11, t12, u13, u14, u15, u16, u17, u18, u19, u20, u21, u22, u23, u24, u25, u26, u27, u28, u29, u30, u31, u32, u33, u34, u35, u36, u37, u38, u39, u40, u41, u42, u43, u44, u45, u46, u47, u48, u49, u50, u51, u52, u53, u54, u55, u56, u57, u58, u59, u60, u61, u62, u63, u64, u65, u66, u67, u68, u69, u70, u71, u72, u73, u74, u75, u76, u77, u78, u79, u80, u81, u82, u83, .bool (!(sHead nm p q)), t85, t86, t87, t88, t89, t90, t91, t92, t93, t94, t95, t96, t97, t98, t99, t100, t101, t102, t103, t104, t105, t106, t107, t108, t109, t110, t111, t112, t113, t114, t115, t116, t117, t118, t119, t120, t121, t122, t123, t124, t125, t126, t127, t128, t129, t130, t131, t132, t133, t134, t135, t136, t137, t138, t139, t140, t141, t142, t143, t144, t145, t146, t147, t148, t149, t150, t151, t152, t153], defers := [] } w) :
    Code.wp Try.prog (fstS (fstS (sndS (sndS (bodyOf Try.f18))))) Q { tmps := #[t0, t1, .pointer (some ⟨x, 0, none⟩), .pointer (some ⟨x + 1, 0, none⟩), t4, .bool nm, t6, t7, t8, t9, t10, t11, t12, t13, t14, t15, t16, t17, t18, t19, t20, t21, t22, t23, t24, t25, t26, t27, t28, t29, t30, t31, t32, t33, t34, t35, t36, t37, t38, t39, t40, t41, t42, t43, t44, t45, t46, t47, t48, t49, t50, t51, t52, t53, t54, t55, t56, t57, t58, t59, t60, t61, t62, t63, t64, t65, t66, t67, t68, t69, t70, t71, t72, t73, t74, t75, t76, t77, t78, t79, t80, t81, t82, t83, t84, t85, t86, t87, t88, t89, t90, t91, t92, t93, t94, t95, t96, t97, t98, t99, t100, t101, t102, t103, t104, t105, t106, t107, t108, t109, t110, t111, t112, t113, t114, t115, t116, t117, t118, t119, t120, t121, t122, t123, t124, t125, t126, t127, t128, t129, t130, t131, t132, t133, t134, t135, t136, t137, t138, t139, t140, t141, t142, t143, t144, t145, t146, t147, t148, t149, t150, t151, t152, t153], defers := [] } w := by
  have BX := Lib.hid hx
  have BY := Lib.hid hy
  have q4 := eql4
  have q8 := eql8
  clear hx hy
  dsimp only [bodyOf, Try.f18, Option.getD_some, sndS, fstS, List.append]
  cases nm with
  | false =>
    go_wp2_with fail
    have e : sHead false p q = false := rfl
    rw [e] at hK
    exact hK _ _ _ _ _ _ _ _ _ _ _ _ _ _ _ _ _ _ _ _ _ _ _ _ _ _ _ _ _ _ _ _ _ _ _ _ _ _ _ _ _ _ _ _ _ _ _ _ _ _ _ _ _ _ _ _ _ _ _ _ _ _ _ _ _ _ _ _ _ _ _
  | true =>
    have c0 := BX.out.2 0 _ rfl
    have d0 := BY.out.2 0 _ rfl
    have c1 := BX.out.2 1 _ rfl
    have d1 := BY.out.2 1 _ rfl
    have c2 := BX.out.2 2 _ rfl
    have d2 := BY.out.2 2 _ rfl
    have c3 := BX.out.2 3 _ rfl
    have d3 := BY.out.2 3 _ rfl
    have c4 := BX.out.2 4 _ rfl
    have d4 := BY.out.2 4 _ rfl
    have c5 := BX.out.2 5 _ rfl
    have d5 := BY.out.2 5 _ rfl
    have c6 := BX.out.2 6 _ rfl
    have d6 := BY.out.2 6 _ rfl
    have c7 := BX.out.2 7 _ rfl
    have d7 := BY.out.2 7 _ rfl
    have c8 := BX.out.2 8 _ rfl
    have d8 := BY.out.2 8 _ rfl
    have c9 := BX.out.2 9 _ rfl
    have d9 := BY.out.2 9 _ rfl
    by_cases h0 : decide (p.kind = q.kind) = true
    · have z0 : (p.kind == q.kind) = true := beq_iff_eq.2 (of_decide_eq_true h0)
      have n0 : (p.kind != q.kind) = false := by rw [bne, z0]; rfl
      have HE0 := Lib.hid h0
      clear h0
      by_cases h1 : decide (p.client = q.client) = true
      · have z1 : (p.client == q.client) = true := beq_iff_eq.2 (of_decide_eq_true h1)
        have n1 : (p.client != q.client) = false := by rw [bne, z1]; rfl
        have HE1 := Lib.hid h1
        clear h1
        by_cases h2 : decide (p.epoch = q.epoch) = true
        · have z2 : (p.epoch == q.epoch) = true := beq_iff_eq.2 (of_decide_eq_true h2)
          have n2 : (p.epoch != q.epoch) = false := by rw [bne, z2]; rfl
          have HE2 := Lib.hid h2
          clear h2
          by_cases h3 : decide (p.seq = q.seq) = true
          · have z3 : (p.seq == q.seq) = true := beq_iff_eq.2 (of_decide_eq_true h3)
            have n3 : (p.seq != q.seq) = false := by rw [bne, z3]; rfl
            have HE3 := Lib.hid h3
            clear h3
            by_cases h4 : decide (p.op = q.op) = true
            · have z4 : (p.op == q.op) = true := beq_iff_eq.2 (of_decide_eq_true h4)
              have n4 : (p.op != q.op) = false := by rw [bne, z4]; rfl
              have HE4 := Lib.hid h4
              clear h4
              by_cases h5 : decide (p.at_ = q.at_) = true
              · have z5 : (p.at_ == q.at_) = true := beq_iff_eq.2 (of_decide_eq_true h5)
                have n5 : (p.at_ != q.at_) = false := by rw [bne, z5]; rfl
                have HE5 := Lib.hid h5
                clear h5
                by_cases h6 : decide (p.n = q.n) = true
                · have z6 : (p.n == q.n) = true := beq_iff_eq.2 (of_decide_eq_true h6)
                  have n6 : (p.n != q.n) = false := by rw [bne, z6]; rfl
                  have HE6 := Lib.hid h6
                  clear h6
                  by_cases h7 : decide (p.data = q.data) = true
                  · have z7 : (p.data.toList == q.data.toList) = true := by rw [ba_beq]; exact h7
                    have HE7 := Lib.hid h7
                    clear h7
                    by_cases h8 : decide (p.old = q.old) = true
                    · have z8 : (p.old == q.old) = true := beq_iff_eq.2 (of_decide_eq_true h8)
                      have n8 : (p.old != q.old) = false := by rw [bne, z8]; rfl
                      have HE8 := Lib.hid h8
                      clear h8
                      by_cases h9 : decide (p.new = q.new) = true
                      · have z9 : (p.new == q.new) = true := beq_iff_eq.2 (of_decide_eq_true h9)
                        have n9 : (p.new != q.new) = false := by rw [bne, z9]; rfl
                        have HE9 := Lib.hid h9
                        clear h9
                        go_wp2_with fail
                        have e : sHead true p q = true := by unfold sHead; rw [HE0.out, HE1.out, HE2.out, HE3.out, HE4.out, HE5.out, HE6.out, HE7.out, HE8.out, HE9.out]; rfl
                        rw [e] at hK
                        exact hK _ _ _ _ _ _ _ _ _ _ _ _ _ _ _ _ _ _ _ _ _ _ _ _ _ _ _ _ _ _ _ _ _ _ _ _ _ _ _ _ _ _ _ _ _ _ _ _ _ _ _ _ _ _ _ _ _ _ _ _ _ _ _ _ _ _ _ _ _ _ _
                      · have z9 : (p.new == q.new) = false := beq_eq_false_iff_ne.2 (fun e => h9 (decide_eq_true e))
                        have n9 : (p.new != q.new) = true := by rw [bne, z9]; rfl
                        have HE9 := Lib.hid (eq_false_of_ne_true h9)
                        clear h9
                        go_wp2_with fail
                        have e : sHead true p q = false := by unfold sHead; rw [HE0.out, HE1.out, HE2.out, HE3.out, HE4.out, HE5.out, HE6.out, HE7.out, HE8.out, HE9.out]; rfl
                        rw [e] at hK
                        exact hK _ _ _ _ _ _ _ _ _ _ _ _ _ _ _ _ _ _ _ _ _ _ _ _ _ _ _ _ _ _ _ _ _ _ _ _ _ _ _ _ _ _ _ _ _ _ _ _ _ _ _ _ _ _ _ _ _ _ _ _ _ _ _ _ _ _ _ _ _ _ _
                    · have z8 : (p.old == q.old) = false := beq_eq_false_iff_ne.2 (fun e => h8 (decide_eq_true e))
                      have n8 : (p.old != q.old) = true := by rw [bne, z8]; rfl
                      have HE8 := Lib.hid (eq_false_of_ne_true h8)
                      clear h8
                      go_wp2_with fail
                      have e : sHead true p q = false := by unfold sHead; rw [HE0.out, HE1.out, HE2.out, HE3.out, HE4.out, HE5.out, HE6.out, HE7.out, HE8.out]; rfl
                      rw [e] at hK
                      exact hK _ _ _ _ _ _ _ _ _ _ _ _ _ _ _ _ _ _ _ _ _ _ _ _ _ _ _ _ _ _ _ _ _ _ _ _ _ _ _ _ _ _ _ _ _ _ _ _ _ _ _ _ _ _ _ _ _ _ _ _ _ _ _ _ _ _ _ _ _ _ _
                  · have z7 : (p.data.toList == q.data.toList) = false := by rw [ba_beq]; exact eq_false_of_ne_true h7
                    have HE7 := Lib.hid (eq_false_of_ne_true h7)
                    clear h7
                    go_wp2_with fail
                    have e : sHead true p q = false := by unfold sHead; rw [HE0.out, HE1.out, HE2.out, HE3.out, HE4.out, HE5.out, HE6.out, HE7.out]; rfl
                    rw [e] at hK
                    exact hK _ _ _ _ _ _ _ _ _ _ _ _ _ _ _ _ _ _ _ _ _ _ _ _ _ _ _ _ _ _ _ _ _ _ _ _ _ _ _ _ _ _ _ _ _ _ _ _ _ _ _ _ _ _ _ _ _ _ _ _ _ _ _ _ _ _ _ _ _ _ _
                · have z6 : (p.n == q.n) = false := beq_eq_false_iff_ne.2 (fun e => h6 (decide_eq_true e))
                  have n6 : (p.n != q.n) = true := by rw [bne, z6]; rfl
                  have HE6 := Lib.hid (eq_false_of_ne_true h6)
                  clear h6
                  go_wp2_with fail
                  have e : sHead true p q = false := by unfold sHead; rw [HE0.out, HE1.out, HE2.out, HE3.out, HE4.out, HE5.out, HE6.out]; rfl
                  rw [e] at hK
                  exact hK _ _ _ _ _ _ _ _ _ _ _ _ _ _ _ _ _ _ _ _ _ _ _ _ _ _ _ _ _ _ _ _ _ _ _ _ _ _ _ _ _ _ _ _ _ _ _ _ _ _ _ _ _ _ _ _ _ _ _ _ _ _ _ _ _ _ _ _ _ _ _
              · have z5 : (p.at_ == q.at_) = false := beq_eq_false_iff_ne.2 (fun e => h5 (decide_eq_true e))
                have n5 : (p.at_ != q.at_) = true := by rw [bne, z5]; rfl
                have HE5 := Lib.hid (eq_false_of_ne_true h5)
                clear h5
                go_wp2_with fail
                have e : sHead true p q = false := by unfold sHead; rw [HE0.out, HE1.out, HE2.out, HE3.out, HE4.out, HE5.out]; rfl
                rw [e] at hK
                exact hK _ _ _ _ _ _ _ _ _ _ _ _ _ _ _ _ _ _ _ _ _ _ _ _ _ _ _ _ _ _ _ _ _ _ _ _ _ _ _ _ _ _ _ _ _ _ _ _ _ _ _ _ _ _ _ _ _ _ _ _ _ _ _ _ _ _ _ _ _ _ _
            · have z4 : (p.op == q.op) = false := beq_eq_false_iff_ne.2 (fun e => h4 (decide_eq_true e))
              have n4 : (p.op != q.op) = true := by rw [bne, z4]; rfl
              have HE4 := Lib.hid (eq_false_of_ne_true h4)
              clear h4
              go_wp2_with fail
              have e : sHead true p q = false := by unfold sHead; rw [HE0.out, HE1.out, HE2.out, HE3.out, HE4.out]; rfl
              rw [e] at hK
              exact hK _ _ _ _ _ _ _ _ _ _ _ _ _ _ _ _ _ _ _ _ _ _ _ _ _ _ _ _ _ _ _ _ _ _ _ _ _ _ _ _ _ _ _ _ _ _ _ _ _ _ _ _ _ _ _ _ _ _ _ _ _ _ _ _ _ _ _ _ _ _ _
          · have z3 : (p.seq == q.seq) = false := beq_eq_false_iff_ne.2 (fun e => h3 (decide_eq_true e))
            have n3 : (p.seq != q.seq) = true := by rw [bne, z3]; rfl
            have HE3 := Lib.hid (eq_false_of_ne_true h3)
            clear h3
            go_wp2_with fail
            have e : sHead true p q = false := by unfold sHead; rw [HE0.out, HE1.out, HE2.out, HE3.out]; rfl
            rw [e] at hK
            exact hK _ _ _ _ _ _ _ _ _ _ _ _ _ _ _ _ _ _ _ _ _ _ _ _ _ _ _ _ _ _ _ _ _ _ _ _ _ _ _ _ _ _ _ _ _ _ _ _ _ _ _ _ _ _ _ _ _ _ _ _ _ _ _ _ _ _ _ _ _ _ _
        · have z2 : (p.epoch == q.epoch) = false := beq_eq_false_iff_ne.2 (fun e => h2 (decide_eq_true e))
          have n2 : (p.epoch != q.epoch) = true := by rw [bne, z2]; rfl
          have HE2 := Lib.hid (eq_false_of_ne_true h2)
          clear h2
          go_wp2_with fail
          have e : sHead true p q = false := by unfold sHead; rw [HE0.out, HE1.out, HE2.out]; rfl
          rw [e] at hK
          exact hK _ _ _ _ _ _ _ _ _ _ _ _ _ _ _ _ _ _ _ _ _ _ _ _ _ _ _ _ _ _ _ _ _ _ _ _ _ _ _ _ _ _ _ _ _ _ _ _ _ _ _ _ _ _ _ _ _ _ _ _ _ _ _ _ _ _ _ _ _ _ _
      · have z1 : (p.client == q.client) = false := beq_eq_false_iff_ne.2 (fun e => h1 (decide_eq_true e))
        have n1 : (p.client != q.client) = true := by rw [bne, z1]; rfl
        have HE1 := Lib.hid (eq_false_of_ne_true h1)
        clear h1
        go_wp2_with fail
        have e : sHead true p q = false := by unfold sHead; rw [HE0.out, HE1.out]; rfl
        rw [e] at hK
        exact hK _ _ _ _ _ _ _ _ _ _ _ _ _ _ _ _ _ _ _ _ _ _ _ _ _ _ _ _ _ _ _ _ _ _ _ _ _ _ _ _ _ _ _ _ _ _ _ _ _ _ _ _ _ _ _ _ _ _ _ _ _ _ _ _ _ _ _ _ _ _ _
    · have z0 : (p.kind == q.kind) = false := beq_eq_false_iff_ne.2 (fun e => h0 (decide_eq_true e))
      have n0 : (p.kind != q.kind) = true := by rw [bne, z0]; rfl
      have HE0 := Lib.hid (eq_false_of_ne_true h0)
      clear h0
      go_wp2_with fail
      have e : sHead true p q = false := by unfold sHead; rw [HE0.out]; rfl
      rw [e] at hK
      exact hK _ _ _ _ _ _ _ _ _ _ _ _ _ _ _ _ _ _ _ _ _ _ _ _ _ _ _ _ _ _ _ _ _ _ _ _ _ _ _ _ _ _ _ _ _ _ _ _ _ _ _ _ _ _ _ _ _ _ _ _ _ _ _ _ _ _ _ _ _ _ _

set_option maxHeartbeats 8000000 in
set_option maxRecDepth 8000 in
theorem ms_tail {w : World} {x : Nat} (p q : PK) (nv nv' : Value) (hx : Blk w x (p.cells nv)) (hy : Blk w (x + 1) (q.cells nv')) (t0 t1 t4 t5 t6 t7 t8 t9 t10 t11 t12 t13 t14 t15 t16 t17 t18 t19 t20 t21 t22 t23 t24 t25 t26 t27 t28 t29 t30 t31 t32 t33 t34 t35 t36 t37 t38 t39 t40 t41 t42 t43 t44 t45 t46 t47 t48 t49 t50 t51 t52 t53 t54 t55 t56 t57 t58 t59 t60 t61 t62 t63 t64 t65 t66 t67 t68 t69 t70 t71 t72 t73 t74 t75 t76 t77 t78 t79 t80 t81 t82 t83 t84 t85 t86 t87 t88 t89 t90 t91 t92 t93 t94 t95 t96 t97 t98 t99 t100 t101 t102 t103 t104 t105 t106 t107 t108 t109 t110 t111 t112 t113 t114 t115 t116 t117 t118 t119 t120 t121 t122 t123 t124 t125 t126 t127 t128 t129 t130 t131 t132 t133 t134 t135 t136 t137 t138 t139 t140 t141 t142 t143 t144 t145 t146 t147 t148 t149 t150 t151 t152 t153 : Value) (Q : Exit → Act → World → Prop)
    (hK : ∀ u85 u86 u87 u88 u89 u90 u91 u92 u93 u94 u95 u96 u97 u98 u99 u100 u101 u102 u103 u104 u105 u106 u107 u108 u109 u110 u111 u112 u113 u114 u115 u116 u117 u118 u119 u120 u121 u122 u123 u124 u125 u126 u127 u128 u129 u130 u131 u132 u133 u134 u135 u136 u137 u138 u139 u140 u141 u142 u143 u144 u145 u146 u147 u148 u149 u150 u151 u152 u153 : Value, Q .normal { tmps := #[t0, t1, .pointer (some ⟨x, 0, none⟩), .pointer (some ⟨x + 1, 0, none⟩), .bool (sTail p q), t5, t6, t7, t8, t9, t10, t11, t12, t13, t14, t15, t16, t17, t18, t19, t20, t21, t22, t23, t24, t25, t26, t27, t28, t29, t30, t31, t32, t33, t34, t35, t36, t37, t38, t39, t40, t41, t42, t43, t44, t45, t46, t47, t48, t49, t50, t51, t52, t53, t54, t55, t56, t57, t58, t59, t60, t61, t62, t63, t64, t65, t66, t67, t68, t69, t70, t71, t72, t73, t74, t75, t76, t77, t78, t79, t80, t81, t82, t83, t84, u85, u86, u87, u88, u89, u90, u91, u92, u93, u94, u95, u96, u97, u98, u99, u100, u101, u102, u103, u104, u105, u106, u107, u108, u109, u110, u111, u112, u113, u114, u115, u116, u117, u118, u119, u120, u121, u122, u123, u124, u125, u126, u127, u128, u129, u130, u131, u132, u133, u134, u135, u136, u137, u138, u139, u140, u141, u142, u143, u144, u145, u146, u147, u148, u149, u150, u151, u152, u153], defers := [] } w) :
    Code.wp Try.prog (fstS (sndS (sndS (sndS (bodyOf Try.f18))))) Q { tmps := #[t0, t1, .pointer (some ⟨x, 0, none⟩), .pointer (some ⟨x + 1, 0, none⟩), t4, t5, t6, t7, t8, t9, t10, t11, t12, t13, t14, t15, t16, t17, t18, t19, t20, t21, t22, t23, t24, t25, t26, t27, t28, t29, t30, t31, t32, t33, t34, t35, t36, t37, t38, t39, t40, t41, t42, t43, t44, t45, t46, t47, t48, t49, t50, t51, t52, t53, t54, t55, t56, t57, t58, t59, t60, t61, t62, t63, t64, t65, t66, t67, t68, t69, t70, t71, t72, t73, t74, t75, t76, t77, t78, t79, t80, t81, t82, t83, t84, t85, t86, t87, t88, t89, t90, t91, t92, t93, t94, t95, t96, t97, t98, t99, t100, t101, t102, t103, t104, t105, t106, t107, t108, t109, t110, t111, t112, t113, t114, t115, t116, t117, t118, t119, t120, t121, t122, t123, t124, t125, t126, t127, t128, t129, t130, t131, t132, t133, t134, t135, t136, t137, t138, t139, t140, t141, t142, t143, t144, t145, t146, t147, t148, t149, t150, t151, t152, t153], defers := [] } w := by
  have BX := Lib.hid hx
  have BY := Lib.hid hy
  have q4 := eql4
  have q8 := eql8
  clear hx hy
  dsimp only [bodyOf, Try.f18, Option.getD_some, sndS, fstS, List.append]
  have c10 := BX.out.2 10 _ rfl
  have d10 := BY.out.2 10 _ rfl
  have c11 := BX.out.2 11 _ rfl
  have d11 := BY.out.2 11 _ rfl
  have c12 := BX.out.2 12 _ rfl
  have d12 := BY.out.2 12 _ rfl
  have c13 := BX.out.2 13 _ rfl
  have d13 := BY.out.2 13 _ rfl
  have c14 := BX.out.2 14 _ rfl
  have d14 := BY.out.2 14 _ rfl
  have c15 := BX.out.2 15 _ rfl
  have d15 := BY.out.2 15 _ rfl
  have c16 := BX.out.2 16 _ rfl
  have d16 := BY.out.2 16 _ rfl
  have c17 := BX.out.2 17 _ rfl
  have d17 := BY.out.2 17 _ rfl
  have c18 := BX.out.2 18 _ rfl
  have d18 := BY.out.2 18 _ rfl
  have c19 := BX.out.2 19 _ rfl
  have d19 := BY.out.2 19 _ rfl
  have c27 := BX.out.2 27 _ rfl
  have d27 := BY.out.2 27 _ rfl
  have c28 := BX.out.2 28 _ rfl
  have d28 := BY.out.2 28 _ rfl
  have c29 := BX.out.2 29 _ rfl
  have d29 := BY.out.2 29 _ rfl
  have c30 := BX.out.2 30 _ rfl
  have d30 := BY.out.2 30 _ rfl
  have c31 := BX.out.2 31 _ rfl
  have d31 := BY.out.2 31 _ rfl
  have c32 := BX.out.2 32 _ rfl
  have d32 := BY.out.2 32 _ rfl
  have c33 := BX.out.2 33 _ rfl
  have d33 := BY.out.2 33 _ rfl
  have c34 := BX.out.2 34 _ rfl
  have d34 := BY.out.2 34 _ rfl
  have c35 := BX.out.2 35 _ rfl
  have d35 := BY.out.2 35 _ rfl
  have c36 := BX.out.2 36 _ rfl
  have d36 := BY.out.2 36 _ rfl
  have c37 := BX.out.2 37 _ rfl
  have d37 := BY.out.2 37 _ rfl
  have c38 := BX.out.2 38 _ rfl
  have d38 := BY.out.2 38 _ rfl
  have c39 := BX.out.2 39 _ rfl
  have d39 := BY.out.2 39 _ rfl
  have c40 := BX.out.2 40 _ rfl
  have d40 := BY.out.2 40 _ rfl
  have c41 := BX.out.2 41 _ rfl
  have d41 := BY.out.2 41 _ rfl
  have c42 := BX.out.2 42 _ rfl
  have d42 := BY.out.2 42 _ rfl
  have c20 := BX.out.2 20 _ rfl
  have d20 := BY.out.2 20 _ rfl
  have c21 := BX.out.2 21 _ rfl
  have d21 := BY.out.2 21 _ rfl
  have c22 := BX.out.2 22 _ rfl
  have d22 := BY.out.2 22 _ rfl
  have c24 := BX.out.2 24 _ rfl
  have d24 := BY.out.2 24 _ rfl
  have c25 := BX.out.2 25 _ rfl
  have d25 := BY.out.2 25 _ rfl
  have c26 := BX.out.2 26 _ rfl
  have d26 := BY.out.2 26 _ rfl
  have rr0 : ∀ d w, (Op.equalIn (d + 4) 24 (.agg #[.int .i64 p.ckind, .string p.path, .string p.path2, .int .i64 p.flags, .int .i64 p.cfd, .int .i64 p.coff, .int .i64 p.cn, .string p.cdata]) (.agg #[.int .i64 q.ckind, .string q.path, .string q.path2, .int .i64 q.flags, .int .i64 q.cfd, .int .i64 q.coff, .int .i64 q.cn, .string q.cdata])).run Try.prog w = .ok (callB p q) w := fun d w => callB_run _ w p q
  have rr4 : ∀ d w, (Op.equalIn (d + 4) 34 (.agg #[.int .i64 p.nkind, .int .i64 p.nlinks, .int .i64 p.nsize, .int .i64 p.b0, .int .i64 p.b1, .int .i64 p.b2, .int .i64 p.b3, .int .i64 p.o0, .int .i64 p.o1, .int .i64 p.o2, .int .i64 p.o3, .int .i64 p.o4, .int .i64 p.o5, .int .i64 p.o6, .int .i64 p.o7]) (.agg #[.int .i64 q.nkind, .int .i64 q.nlinks, .int .i64 q.nsize, .int .i64 q.b0, .int .i64 q.b1, .int .i64 q.b2, .int .i64 q.b3, .int .i64 q.o0, .int .i64 q.o1, .int .i64 q.o2, .int .i64 q.o3, .int .i64 q.o4, .int .i64 q.o5, .int .i64 q.o6, .int .i64 q.o7])).run Try.prog w = .ok (nodeB p q) w := fun d w => nodeB_run _ w p q
  have rr8 : ∀ d w, (Op.equalIn (d + 4) 28 (.agg #[.int .i64 p.ikind, .int .i64 p.ilinks, .int .i64 p.isize]) (.agg #[.int .i64 q.ikind, .int .i64 q.ilinks, .int .i64 q.isize])).run Try.prog w = .ok (infoB p q) w := fun d w => infoB_run _ w p q
  by_cases h0 : callB p q = true
  · have z0 : callB p q = true := h0
    have HE0 := Lib.hid h0
    clear h0
    by_cases h1 : decide (p.ino = q.ino) = true
    · have z1 : (p.ino == q.ino) = true := beq_iff_eq.2 (of_decide_eq_true h1)
      have HE1 := Lib.hid h1
      clear h1
      by_cases h2 : decide (p.errno = q.errno) = true
      · have z2 : (p.errno == q.errno) = true := beq_iff_eq.2 (of_decide_eq_true h2)
        have HE2 := Lib.hid h2
        clear h2
        by_cases h3 : decide (p.wrote = q.wrote) = true
        · have z3 : (p.wrote == q.wrote) = true := beq_iff_eq.2 (of_decide_eq_true h3)
          have HE3 := Lib.hid h3
          clear h3
          by_cases h4 : nodeB p q = true
          · have z4 : nodeB p q = true := h4
            have HE4 := Lib.hid h4
            clear h4
            by_cases h5 : decide (p.rerrno = q.rerrno) = true
            · have z5 : (p.rerrno == q.rerrno) = true := beq_iff_eq.2 (of_decide_eq_true h5)
              have HE5 := Lib.hid h5
              clear h5
              by_cases h6 : decide (p.rfd = q.rfd) = true
              · have z6 : (p.rfd == q.rfd) = true := beq_iff_eq.2 (of_decide_eq_true h6)
                have HE6 := Lib.hid h6
                clear h6
                by_cases h7 : decide (p.rdata = q.rdata) = true
                · have z7 : (p.rdata.toList == q.rdata.toList) = true := by rw [ba_beq]; exact h7
                  have HE7 := Lib.hid h7
                  clear h7
                  by_cases h8 : infoB p q = true
                  · have z8 : infoB p q = true := h8
                    have HE8 := Lib.hid h8
                    clear h8
                    go_wp2_with fail
                    have e : sTail p q = true := by unfold sTail; rw [HE0.out, HE1.out, HE2.out, HE3.out, HE4.out, HE5.out, HE6.out, HE7.out, HE8.out]; rfl
                    rw [e] at hK
                    exact hK _ _ _ _ _ _ _ _ _ _ _ _ _ _ _ _ _ _ _ _ _ _ _ _ _ _ _ _ _ _ _ _ _ _ _ _ _ _ _ _ _ _ _ _ _ _ _ _ _ _ _ _ _ _ _ _ _ _ _ _ _ _ _ _ _ _ _ _ _
                  · have z8 : infoB p q = false := eq_false_of_ne_true h8
                    have HE8 := Lib.hid (eq_false_of_ne_true h8)
                    clear h8
                    go_wp2_with fail
                    have e : sTail p q = false := by unfold sTail; rw [HE0.out, HE1.out, HE2.out, HE3.out, HE4.out, HE5.out, HE6.out, HE7.out, HE8.out]; rfl
                    rw [e] at hK
                    exact hK _ _ _ _ _ _ _ _ _ _ _ _ _ _ _ _ _ _ _ _ _ _ _ _ _ _ _ _ _ _ _ _ _ _ _ _ _ _ _ _ _ _ _ _ _ _ _ _ _ _ _ _ _ _ _ _ _ _ _ _ _ _ _ _ _ _ _ _ _
                · have z7 : (p.rdata.toList == q.rdata.toList) = false := by rw [ba_beq]; exact eq_false_of_ne_true h7
                  have HE7 := Lib.hid (eq_false_of_ne_true h7)
                  clear h7
                  go_wp2_with fail
                  have e : sTail p q = false := by unfold sTail; rw [HE0.out, HE1.out, HE2.out, HE3.out, HE4.out, HE5.out, HE6.out, HE7.out]; rfl
                  rw [e] at hK
                  exact hK _ _ _ _ _ _ _ _ _ _ _ _ _ _ _ _ _ _ _ _ _ _ _ _ _ _ _ _ _ _ _ _ _ _ _ _ _ _ _ _ _ _ _ _ _ _ _ _ _ _ _ _ _ _ _ _ _ _ _ _ _ _ _ _ _ _ _ _ _
              · have z6 : (p.rfd == q.rfd) = false := beq_eq_false_iff_ne.2 (fun e => h6 (decide_eq_true e))
                have HE6 := Lib.hid (eq_false_of_ne_true h6)
                clear h6
                go_wp2_with fail
                have e : sTail p q = false := by unfold sTail; rw [HE0.out, HE1.out, HE2.out, HE3.out, HE4.out, HE5.out, HE6.out]; rfl
                rw [e] at hK
                exact hK _ _ _ _ _ _ _ _ _ _ _ _ _ _ _ _ _ _ _ _ _ _ _ _ _ _ _ _ _ _ _ _ _ _ _ _ _ _ _ _ _ _ _ _ _ _ _ _ _ _ _ _ _ _ _ _ _ _ _ _ _ _ _ _ _ _ _ _ _
            · have z5 : (p.rerrno == q.rerrno) = false := beq_eq_false_iff_ne.2 (fun e => h5 (decide_eq_true e))
              have HE5 := Lib.hid (eq_false_of_ne_true h5)
              clear h5
              go_wp2_with fail
              have e : sTail p q = false := by unfold sTail; rw [HE0.out, HE1.out, HE2.out, HE3.out, HE4.out, HE5.out]; rfl
              rw [e] at hK
              exact hK _ _ _ _ _ _ _ _ _ _ _ _ _ _ _ _ _ _ _ _ _ _ _ _ _ _ _ _ _ _ _ _ _ _ _ _ _ _ _ _ _ _ _ _ _ _ _ _ _ _ _ _ _ _ _ _ _ _ _ _ _ _ _ _ _ _ _ _ _
          · have z4 : nodeB p q = false := eq_false_of_ne_true h4
            have HE4 := Lib.hid (eq_false_of_ne_true h4)
            clear h4
            go_wp2_with fail
            have e : sTail p q = false := by unfold sTail; rw [HE0.out, HE1.out, HE2.out, HE3.out, HE4.out]; rfl
            rw [e] at hK
            exact hK _ _ _ _ _ _ _ _ _ _ _ _ _ _ _ _ _ _ _ _ _ _ _ _ _ _ _ _ _ _ _ _ _ _ _ _ _ _ _ _ _ _ _ _ _ _ _ _ _ _ _ _ _ _ _ _ _ _ _ _ _ _ _ _ _ _ _ _ _
        · have z3 : (p.wrote == q.wrote) = false := beq_eq_false_iff_ne.2 (fun e => h3 (decide_eq_true e))
          have HE3 := Lib.hid (eq_false_of_ne_true h3)
          clear h3
          go_wp2_with fail
          have e : sTail p q = false := by unfold sTail; rw [HE0.out, HE1.out, HE2.out, HE3.out]; rfl
          rw [e] at hK
          exact hK _ _ _ _ _ _ _ _ _ _ _ _ _ _ _ _ _ _ _ _ _ _ _ _ _ _ _ _ _ _ _ _ _ _ _ _ _ _ _ _ _ _ _ _ _ _ _ _ _ _ _ _ _ _ _ _ _ _ _ _ _ _ _ _ _ _ _ _ _
      · have z2 : (p.errno == q.errno) = false := beq_eq_false_iff_ne.2 (fun e => h2 (decide_eq_true e))
        have HE2 := Lib.hid (eq_false_of_ne_true h2)
        clear h2
        go_wp2_with fail
        have e : sTail p q = false := by unfold sTail; rw [HE0.out, HE1.out, HE2.out]; rfl
        rw [e] at hK
        exact hK _ _ _ _ _ _ _ _ _ _ _ _ _ _ _ _ _ _ _ _ _ _ _ _ _ _ _ _ _ _ _ _ _ _ _ _ _ _ _ _ _ _ _ _ _ _ _ _ _ _ _ _ _ _ _ _ _ _ _ _ _ _ _ _ _ _ _ _ _
    · have z1 : (p.ino == q.ino) = false := beq_eq_false_iff_ne.2 (fun e => h1 (decide_eq_true e))
      have HE1 := Lib.hid (eq_false_of_ne_true h1)
      clear h1
      go_wp2_with fail
      have e : sTail p q = false := by unfold sTail; rw [HE0.out, HE1.out]; rfl
      rw [e] at hK
      exact hK _ _ _ _ _ _ _ _ _ _ _ _ _ _ _ _ _ _ _ _ _ _ _ _ _ _ _ _ _ _ _ _ _ _ _ _ _ _ _ _ _ _ _ _ _ _ _ _ _ _ _ _ _ _ _ _ _ _ _ _ _ _ _ _ _ _ _ _ _
  · have z0 : callB p q = false := eq_false_of_ne_true h0
    have HE0 := Lib.hid (eq_false_of_ne_true h0)
    clear h0
    go_wp2_with fail
    have e : sTail p q = false := by unfold sTail; rw [HE0.out]; rfl
    rw [e] at hK
    exact hK _ _ _ _ _ _ _ _ _ _ _ _ _ _ _ _ _ _ _ _ _ _ _ _ _ _ _ _ _ _ _ _ _ _ _ _ _ _ _ _ _ _ _ _ _ _ _ _ _ _ _ _ _ _ _ _ _ _ _ _ _ _ _ _ _ _ _ _ _

theorem same_all2 (p q : PK) : (sHead (decide (p.names = q.names)) p q && sTail p q) = decide (p = q) := by
  rw [← same_all]
  unfold sHead sTail headB verbsB rpcsB replyB
  rw [Bool.eq_iff_iff]
  simp only [Bool.and_eq_true]
  constructor
  · rintro ⟨⟨⟨⟨⟨⟨⟨⟨⟨⟨⟨a1, a2⟩, a3⟩, a4⟩, a5⟩, a6⟩, a7⟩, a8⟩, a9⟩, a10⟩, a11⟩, ⟨⟨⟨⟨⟨⟨⟨b1, b2⟩, b3⟩, b4⟩, b5⟩, b6⟩, b7⟩, b8⟩, b9⟩
    simp_all
  · intro h
    simp_all

set_option maxHeartbeats 8000000 in
set_option maxRecDepth 8000 in
theorem m_same {w : World} (p q : PK) {A A' : Option Addr} {c c' : Nat} (hp : RS w A p.names.length p.names) (hq : RS w A' q.names.length q.names) (hp3 : p.names.length ≤ 1048576) (hq3 : q.names.length ≤ 1048576) :
    Calls Try.prog 18 #[.agg #[.int .i64 p.kind, .int .i64 p.client, .int .i64 p.epoch, .int .i64 p.seq, .int .i64 p.op, .int .i64 p.at_, .int .i64 p.n, .string p.data, .int .i64 p.old, .int .i64 p.new, .int .i64 p.ckind, .string p.path, .string p.path2, .int .i64 p.flags, .int .i64 p.cfd, .int .i64 p.coff, .int .i64 p.cn, .string p.cdata, .int .i64 p.ino, .int .i64 p.errno, .int .i64 p.rerrno, .int .i64 p.rfd, .string p.rdata, .slice A p.names.length c, .int .i64 p.ikind, .int .i64 p.ilinks, .int .i64 p.isize, .int .i64 p.wrote, .int .i64 p.nkind, .int .i64 p.nlinks, .int .i64 p.nsize, .int .i64 p.b0, .int .i64 p.b1, .int .i64 p.b2, .int .i64 p.b3, .int .i64 p.o0, .int .i64 p.o1, .int .i64 p.o2, .int .i64 p.o3, .int .i64 p.o4, .int .i64 p.o5, .int .i64 p.o6, .int .i64 p.o7], .agg #[.int .i64 q.kind, .int .i64 q.client, .int .i64 q.epoch, .int .i64 q.seq, .int .i64 q.op, .int .i64 q.at_, .int .i64 q.n, .string q.data, .int .i64 q.old, .int .i64 q.new, .int .i64 q.ckind, .string q.path, .string q.path2, .int .i64 q.flags, .int .i64 q.cfd, .int .i64 q.coff, .int .i64 q.cn, .string q.cdata, .int .i64 q.ino, .int .i64 q.errno, .int .i64 q.rerrno, .int .i64 q.rfd, .string q.rdata, .slice A' q.names.length c', .int .i64 q.ikind, .int .i64 q.ilinks, .int .i64 q.isize, .int .i64 q.wrote, .int .i64 q.nkind, .int .i64 q.nlinks, .int .i64 q.nsize, .int .i64 q.b0, .int .i64 q.b1, .int .i64 q.b2, .int .i64 q.b3, .int .i64 q.o0, .int .i64 q.o1, .int .i64 q.o2, .int .i64 q.o3, .int .i64 q.o4, .int .i64 q.o5, .int .i64 q.o6, .int .i64 q.o7]] w fun e w' => e = .returned (.bool (decide (p = q))) ∧ Grow w w' := by
  obtain ⟨m, hm⟩ : ∃ m, m = p.names.length := ⟨_, rfl⟩
  obtain ⟨m', hm'⟩ : ∃ m, m = q.names.length := ⟨_, rfl⟩
  rw [← hm] at hp hp3 ⊢
  rw [← hm'] at hq hq3 ⊢
  clear hm hm'
  go_enter Try.func18, Try.ntmps18
  go_upto_region 1 with (fail)
  have G2 := ((Grow.refl w).alloc (.cells #[.int .i64 p.kind, .int .i64 p.client, .int .i64 p.epoch, .int .i64 p.seq, .int .i64 p.op, .int .i64 p.at_, .int .i64 p.n, .string p.data, .int .i64 p.old, .int .i64 p.new, .int .i64 p.ckind, .string p.path, .string p.path2, .int .i64 p.flags, .int .i64 p.cfd, .int .i64 p.coff, .int .i64 p.cn, .string p.cdata, .int .i64 p.ino, .int .i64 p.errno, .int .i64 p.rerrno, .int .i64 p.rfd, .string p.rdata, .slice A m c, .int .i64 p.ikind, .int .i64 p.ilinks, .int .i64 p.isize, .int .i64 p.wrote, .int .i64 p.nkind, .int .i64 p.nlinks, .int .i64 p.nsize, .int .i64 p.b0, .int .i64 p.b1, .int .i64 p.b2, .int .i64 p.b3, .int .i64 p.o0, .int .i64 p.o1, .int .i64 p.o2, .int .i64 p.o3, .int .i64 p.o4, .int .i64 p.o5, .int .i64 p.o6, .int .i64 p.o7] 36)).alloc (.cells #[.int .i64 q.kind, .int .i64 q.client, .int .i64 q.epoch, .int .i64 q.seq, .int .i64 q.op, .int .i64 q.at_, .int .i64 q.n, .string q.data, .int .i64 q.old, .int .i64 q.new, .int .i64 q.ckind, .string q.path, .string q.path2, .int .i64 q.flags, .int .i64 q.cfd, .int .i64 q.coff, .int .i64 q.cn, .string q.cdata, .int .i64 q.ino, .int .i64 q.errno, .int .i64 q.rerrno, .int .i64 q.rfd, .string q.rdata, .slice A' m' c', .int .i64 q.ikind, .int .i64 q.ilinks, .int .i64 q.isize, .int .i64 q.wrote, .int .i64 q.nkind, .int .i64 q.nlinks, .int .i64 q.nsize, .int .i64 q.b0, .int .i64 q.b1, .int .i64 q.b2, .int .i64 q.b3, .int .i64 q.o0, .int .i64 q.o1, .int .i64 q.o2, .int .i64 q.o3, .int .i64 q.o4, .int .i64 q.o5, .int .i64 q.o6, .int .i64 q.o7] 36)
  have BX := Lib.hid ((Blk.new w 36 (p.cells (.slice A m c)) #[.int .i64 p.kind, .int .i64 p.client, .int .i64 p.epoch, .int .i64 p.seq, .int .i64 p.op, .int .i64 p.at_, .int .i64 p.n, .string p.data, .int .i64 p.old, .int .i64 p.new, .int .i64 p.ckind, .string p.path, .string p.path2, .int .i64 p.flags, .int .i64 p.cfd, .int .i64 p.coff, .int .i64 p.cn, .string p.cdata, .int .i64 p.ino, .int .i64 p.errno, .int .i64 p.rerrno, .int .i64 p.rfd, .string p.rdata, .slice A m c, .int .i64 p.ikind, .int .i64 p.ilinks, .int .i64 p.isize, .int .i64 p.wrote, .int .i64 p.nkind, .int .i64 p.nlinks, .int .i64 p.nsize, .int .i64 p.b0, .int .i64 p.b1, .int .i64 p.b2, .int .i64 p.b3, .int .i64 p.o0, .int .i64 p.o1, .int .i64 p.o2, .int .i64 p.o3, .int .i64 p.o4, .int .i64 p.o5, .int .i64 p.o6, .int .i64 p.o7] (0, 0) rfl).keep ((Grow.refl _).alloc (.cells #[.int .i64 q.kind, .int .i64 q.client, .int .i64 q.epoch, .int .i64 q.seq, .int .i64 q.op, .int .i64 q.at_, .int .i64 q.n, .string q.data, .int .i64 q.old, .int .i64 q.new, .int .i64 q.ckind, .string q.path, .string q.path2, .int .i64 q.flags, .int .i64 q.cfd, .int .i64 q.coff, .int .i64 q.cn, .string q.cdata, .int .i64 q.ino, .int .i64 q.errno, .int .i64 q.rerrno, .int .i64 q.rfd, .string q.rdata, .slice A' m' c', .int .i64 q.ikind, .int .i64 q.ilinks, .int .i64 q.isize, .int .i64 q.wrote, .int .i64 q.nkind, .int .i64 q.nlinks, .int .i64 q.nsize, .int .i64 q.b0, .int .i64 q.b1, .int .i64 q.b2, .int .i64 q.b3, .int .i64 q.o0, .int .i64 q.o1, .int .i64 q.o2, .int .i64 q.o3, .int .i64 q.o4, .int .i64 q.o5, .int .i64 q.o6, .int .i64 q.o7] 36)))
  have BY := Lib.hid (show Blk _ (w.heap.size + 1) _ by
    have := Blk.new (w.alloc (.cells #[.int .i64 p.kind, .int .i64 p.client, .int .i64 p.epoch, .int .i64 p.seq, .int .i64 p.op, .int .i64 p.at_, .int .i64 p.n, .string p.data, .int .i64 p.old, .int .i64 p.new, .int .i64 p.ckind, .string p.path, .string p.path2, .int .i64 p.flags, .int .i64 p.cfd, .int .i64 p.coff, .int .i64 p.cn, .string p.cdata, .int .i64 p.ino, .int .i64 p.errno, .int .i64 p.rerrno, .int .i64 p.rfd, .string p.rdata, .slice A m c, .int .i64 p.ikind, .int .i64 p.ilinks, .int .i64 p.isize, .int .i64 p.wrote, .int .i64 p.nkind, .int .i64 p.nlinks, .int .i64 p.nsize, .int .i64 p.b0, .int .i64 p.b1, .int .i64 p.b2, .int .i64 p.b3, .int .i64 p.o0, .int .i64 p.o1, .int .i64 p.o2, .int .i64 p.o3, .int .i64 p.o4, .int .i64 p.o5, .int .i64 p.o6, .int .i64 p.o7] 36)) 36 (q.cells (.slice A' m' c')) #[.int .i64 q.kind, .int .i64 q.client, .int .i64 q.epoch, .int .i64 q.seq, .int .i64 q.op, .int .i64 q.at_, .int .i64 q.n, .string q.data, .int .i64 q.old, .int .i64 q.new, .int .i64 q.ckind, .string q.path, .string q.path2, .int .i64 q.flags, .int .i64 q.cfd, .int .i64 q.coff, .int .i64 q.cn, .string q.cdata, .int .i64 q.ino, .int .i64 q.errno, .int .i64 q.rerrno, .int .i64 q.rfd, .string q.rdata, .slice A' m' c', .int .i64 q.ikind, .int .i64 q.ilinks, .int .i64 q.isize, .int .i64 q.wrote, .int .i64 q.nkind, .int .i64 q.nlinks, .int .i64 q.nsize, .int .i64 q.b0, .int .i64 q.b1, .int .i64 q.b2, .int .i64 q.b3, .int .i64 q.o0, .int .i64 q.o1, .int .i64 q.o2, .int .i64 q.o3, .int .i64 q.o4, .int .i64 q.o5, .int .i64 q.o6, .int .i64 q.o7] (0, 0) rfl
    rwa [show (w.alloc (.cells #[.int .i64 p.kind, .int .i64 p.client, .int .i64 p.epoch, .int .i64 p.seq, .int .i64 p.op, .int .i64 p.at_, .int .i64 p.n, .string p.data, .int .i64 p.old, .int .i64 p.new, .int .i64 p.ckind, .string p.path, .string p.path2, .int .i64 p.flags, .int .i64 p.cfd, .int .i64 p.coff, .int .i64 p.cn, .string p.cdata, .int .i64 p.ino, .int .i64 p.errno, .int .i64 p.rerrno, .int .i64 p.rfd, .string p.rdata, .slice A m c, .int .i64 p.ikind, .int .i64 p.ilinks, .int .i64 p.isize, .int .i64 p.wrote, .int .i64 p.nkind, .int .i64 p.nlinks, .int .i64 p.nsize, .int .i64 p.b0, .int .i64 p.b1, .int .i64 p.b2, .int .i64 p.b3, .int .i64 p.o0, .int .i64 p.o1, .int .i64 p.o2, .int .i64 p.o3, .int .i64 p.o4, .int .i64 p.o5, .int .i64 p.o6, .int .i64 p.o7] 36)).heap.size = w.heap.size + 1 by simp] at this)
  obtain ⟨w2, hw2⟩ : ∃ z, z = (w.alloc (.cells #[.int .i64 p.kind, .int .i64 p.client, .int .i64 p.epoch, .int .i64 p.seq, .int .i64 p.op, .int .i64 p.at_, .int .i64 p.n, .string p.data, .int .i64 p.old, .int .i64 p.new, .int .i64 p.ckind, .string p.path, .string p.path2, .int .i64 p.flags, .int .i64 p.cfd, .int .i64 p.coff, .int .i64 p.cn, .string p.cdata, .int .i64 p.ino, .int .i64 p.errno, .int .i64 p.rerrno, .int .i64 p.rfd, .string p.rdata, .slice A m c, .int .i64 p.ikind, .int .i64 p.ilinks, .int .i64 p.isize, .int .i64 p.wrote, .int .i64 p.nkind, .int .i64 p.nlinks, .int .i64 p.nsize, .int .i64 p.b0, .int .i64 p.b1, .int .i64 p.b2, .int .i64 p.b3, .int .i64 p.o0, .int .i64 p.o1, .int .i64 p.o2, .int .i64 p.o3, .int .i64 p.o4, .int .i64 p.o5, .int .i64 p.o6, .int .i64 p.o7] 36)).alloc (.cells #[.int .i64 q.kind, .int .i64 q.client, .int .i64 q.epoch, .int .i64 q.seq, .int .i64 q.op, .int .i64 q.at_, .int .i64 q.n, .string q.data, .int .i64 q.old, .int .i64 q.new, .int .i64 q.ckind, .string q.path, .string q.path2, .int .i64 q.flags, .int .i64 q.cfd, .int .i64 q.coff, .int .i64 q.cn, .string q.cdata, .int .i64 q.ino, .int .i64 q.errno, .int .i64 q.rerrno, .int .i64 q.rfd, .string q.rdata, .slice A' m' c', .int .i64 q.ikind, .int .i64 q.ilinks, .int .i64 q.isize, .int .i64 q.wrote, .int .i64 q.nkind, .int .i64 q.nlinks, .int .i64 q.nsize, .int .i64 q.b0, .int .i64 q.b1, .int .i64 q.b2, .int .i64 q.b3, .int .i64 q.o0, .int .i64 q.o1, .int .i64 q.o2, .int .i64 q.o3, .int .i64 q.o4, .int .i64 q.o5, .int .i64 q.o6, .int .i64 q.o7] 36) := ⟨_, rfl⟩
  obtain ⟨x, hx⟩ : ∃ z, z = w.heap.size := ⟨_, rfl⟩
  rw [← hw2] at G2 BX BY ⊢
  have HK := Lib.hid (hp.grow G2)
  have HL := Lib.hid (hq.grow G2)
  have HG := Lib.hid G2
  rw [← hx] at BX BY ⊢
  obtain ⟨P0, hP0⟩ : ∃ z, z = Value.agg #[.int .i64 p.kind, .int .i64 p.client, .int .i64 p.epoch, .int .i64 p.seq, .int .i64 p.op, .int .i64 p.at_, .int .i64 p.n, .string p.data, .int .i64 p.old, .int .i64 p.new, .int .i64 p.ckind, .string p.path, .string p.path2, .int .i64 p.flags, .int .i64 p.cfd, .int .i64 p.coff, .int .i64 p.cn, .string p.cdata, .int .i64 p.ino, .int .i64 p.errno, .int .i64 p.rerrno, .int .i64 p.rfd, .string p.rdata, .slice A m c, .int .i64 p.ikind, .int .i64 p.ilinks, .int .i64 p.isize, .int .i64 p.wrote, .int .i64 p.nkind, .int .i64 p.nlinks, .int .i64 p.nsize, .int .i64 p.b0, .int .i64 p.b1, .int .i64 p.b2, .int .i64 p.b3, .int .i64 p.o0, .int .i64 p.o1, .int .i64 p.o2, .int .i64 p.o3, .int .i64 p.o4, .int .i64 p.o5, .int .i64 p.o6, .int .i64 p.o7] := ⟨_, rfl⟩
  obtain ⟨Q0, hQ0⟩ : ∃ z, z = Value.agg #[.int .i64 q.kind, .int .i64 q.client, .int .i64 q.epoch, .int .i64 q.seq, .int .i64 q.op, .int .i64 q.at_, .int .i64 q.n, .string q.data, .int .i64 q.old, .int .i64 q.new, .int .i64 q.ckind, .string q.path, .string q.path2, .int .i64 q.flags, .int .i64 q.cfd, .int .i64 q.coff, .int .i64 q.cn, .string q.cdata, .int .i64 q.ino, .int .i64 q.errno, .int .i64 q.rerrno, .int .i64 q.rfd, .string q.rdata, .slice A' m' c', .int .i64 q.ikind, .int .i64 q.ilinks, .int .i64 q.isize, .int .i64 q.wrote, .int .i64 q.nkind, .int .i64 q.nlinks, .int .i64 q.nsize, .int .i64 q.b0, .int .i64 q.b1, .int .i64 q.b2, .int .i64 q.b3, .int .i64 q.o0, .int .i64 q.o1, .int .i64 q.o2, .int .i64 q.o3, .int .i64 q.o4, .int .i64 q.o5, .int .i64 q.o6, .int .i64 q.o7] := ⟨_, rfl⟩
  rw [← hP0, ← hQ0]
  clear hw2 hp hq G2 hx hP0 hQ0
  have c23 := BX.out.2 23 _ rfl
  have d23 := BY.out.2 23 _ rfl
  go_wp2_with fail
  refine (names_same HK.out HL.out (by omega) (by omega)).mono ?_
  rintro e w3 ⟨rfl, j, hw3⟩
  have g3 : Grow w2 w3 := by rw [hw3]; exact (Grow.refl _).drewN _
  replace BX := Lib.hid (BX.out.keep g3)
  replace BY := Lib.hid (BY.out.keep g3)
  replace HG := Lib.hid (HG.out.trans g3)
  clear c23 d23 hw3 g3
  obtain ⟨nm, hnm⟩ : ∃ z, z = decide (p.names = q.names) := ⟨_, rfl⟩
  rw [← hnm]
  have HALL := Lib.hid (same_all2 p q)
  rw [← hnm] at HALL
  clear hnm
  go_upto_region 2 with (fail)
  refine ms_head p q _ _ nm BX.out BY.out _ _ _ _ _ _ _ _ _ _ _ _ _ _ _ _ _ _ _ _ _ _ _ _ _ _ _ _ _ _ _ _ _ _ _ _ _ _ _ _ _ _ _ _ _ _ _ _ _ _ _ _ _ _ _ _ _ _ _ _ _ _ _ _ _ _ _ _ _ _ _ _ _ _ _ _ _ _ _ _ _ _ _ _ _ _ _ _ _ _ _ _ _ _ _ _ _ _ _ _ _ _ _ _ _ _ _ _ _ _ _ _ _ _ _ _ _ _ _ _ _ _ _ _ _ _ _ _ _ _ _ _ _ _ _ _ _ _ _ _ _ _ _ _ _ _ _ _ _ _ _ _ ?_
  intro u13 u14 u15 u16 u17 u18 u19 u20 u21 u22 u23 u24 u25 u26 u27 u28 u29 u30 u31 u32 u33 u34 u35 u36 u37 u38 u39 u40 u41 u42 u43 u44 u45 u46 u47 u48 u49 u50 u51 u52 u53 u54 u55 u56 u57 u58 u59 u60 u61 u62 u63 u64 u65 u66 u67 u68 u69 u70 u71 u72 u73 u74 u75 u76 u77 u78 u79 u80 u81 u82 u83
  obtain ⟨b0, hb0⟩ : ∃ z, z = sHead nm p q := ⟨_, rfl⟩
  rw [← hb0]
  rw [← hb0] at HALL
  clear hb0
  cases b0 with
  | false =>
    go_wp2_with fail
    go_ret
    exact ⟨ret_bool (by rw [← HALL.out]; simp), HG.out⟩
  | true =>
    go_upto_region 4 with (fail)
    refine ms_tail p q _ _ BX.out BY.out _ _ _ _ _ _ _ _ _ _ _ _ _ _ _ _ _ _ _ _ _ _ _ _ _ _ _ _ _ _ _ _ _ _ _ _ _ _ _ _ _ _ _ _ _ _ _ _ _ _ _ _ _ _ _ _ _ _ _ _ _ _ _ _ _ _ _ _ _ _ _ _ _ _ _ _ _ _ _ _ _ _ _ _ _ _ _ _ _ _ _ _ _ _ _ _ _ _ _ _ _ _ _ _ _ _ _ _ _ _ _ _ _ _ _ _ _ _ _ _ _ _ _ _ _ _ _ _ _ _ _ _ _ _ _ _ _ _ _ _ _ _ _ _ _ _ _ _ _ _ _ _ _ ?_
    intro u85 u86 u87 u88 u89 u90 u91 u92 u93 u94 u95 u96 u97 u98 u99 u100 u101 u102 u103 u104 u105 u106 u107 u108 u109 u110 u111 u112 u113 u114 u115 u116 u117 u118 u119 u120 u121 u122 u123 u124 u125 u126 u127 u128 u129 u130 u131 u132 u133 u134 u135 u136 u137 u138 u139 u140 u141 u142 u143 u144 u145 u146 u147 u148 u149 u150 u151 u152 u153
    go_wp2_with fail
    go_ret
    exact ⟨ret_bool (by rw [← HALL.out]; simp), HG.out⟩
end Go.Proofs.Ytdlcpfgogjcciaa
