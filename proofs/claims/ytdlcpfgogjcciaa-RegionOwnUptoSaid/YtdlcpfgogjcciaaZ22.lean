/- commonsref03.New. A memory and its card, and the document's. A packet with at most 140 bytes. region.Card.Do. No statement of the seat is proved here. -/
import Derived.Test.YtdlcpfgogjcciaaZ14
import Derived.Test.YtdlcpfgogjcciaaZ21
import Derived.Test.YtdlcpfgogjcciaaZ17
import Derived.Test.YtdlcpfgogjcciaaZ10
namespace Go.Proofs.Ytdlcpfgogjcciaa
open Go.RowKit

theorem rm_new_no (n : Int) (h : sizeB n = false) (w : World) :
    Calls Try.prog 12 #[.int .i64 n] w fun e w' => e = .returned (.pointer none) ∧ w = w' := by
  have h0 : ¬ (64 ≤ n ∧ n ≤ 1048576 ∧ n % 64 = 0) := fun q => by rw [sizeB_iff.2 q] at h; cases h
  by_cases h1 : n < 64
  · have z1 : decide (n < 64) = true := decide_eq_true h1
    clear h h0 h1
    go_enter Try.func12, Try.ntmps12
    go_wp2_with fail
    go_ret
    exact ⟨rfl, rfl⟩
  · have z1 : decide (n < 64) = false := decide_eq_false h1
    by_cases h2 : 1048576 < n
    · have z2 : decide (1048576 < n) = true := decide_eq_true h2
      clear h h0 h1 h2
      go_enter Try.func12, Try.ntmps12
      go_wp2_with fail
      go_ret
      exact ⟨rfl, rfl⟩
    · have z2 : decide (1048576 < n) = false := decide_eq_false h2
      have z3 : (Int.tmod n 64 != 0) = true := by rw [Int.tmod_eq_emod_of_nonneg (by omega), bne_iff_ne]; omega
      clear h h0 h1 h2
      go_enter Try.func12, Try.ntmps12
      go_wp2_with fail
      go_ret
      exact ⟨rfl, rfl⟩

theorem bool_info : (Try.prog.info? 4).map (fun i => (i.zero, i.size, i.bytes)) = some (some (.bool false), 1, 1) := by kernel_rfl
def zbytes (L : Nat) : Array Value := Array.replicate L (.int .u8 0)
def zbools (N : Nat) : Array Value := Array.replicate N (.bool false)
theorem make_bytes (L : Nat) (hL : L ≤ 1048576) (w : World) : (Instr.makeSlice 44 (.int .i64 (L : Int)) (.int .i64 (L : Int))).run Try.prog w = .ok (.slice (some ⟨w.heap.size, 0, none⟩) L L) (w.alloc (.cells (zbytes L) 5)) := by
  obtain ⟨i0, hi, hz, h1, h2⟩ := info_parts byte_info
  have := run_make (P := Try.prog) w 44 5 i0 _ Try.underlying44 hi hz .i64 .i64 L L (by omega) (Int.le_refl _) (by rw [h2]; omega) (by omega)
  have e : madeCells (Value.int .u8 0).cells (L * 1) = zbytes L := by
    rw [Nat.mul_one]; apply Array.ext
    · simp [madeCells, zbytes]
    · intro j h3 h4; simp [madeCells, zbytes, Value.cells, Nat.mod_one]
  simp only [Int.toNat_natCast, h1, e] at this
  exact this
theorem make_bools (N : Nat) (hN : N ≤ 1048576) (w : World) : (Instr.makeSlice 85 (.int .i64 (N : Int)) (.int .i64 (N : Int))).run Try.prog w = .ok (.slice (some ⟨w.heap.size, 0, none⟩) N N) (w.alloc (.cells (zbools N) 4)) := by
  obtain ⟨i0, hi, hz, h1, h2⟩ := info_parts bool_info
  have := run_make (P := Try.prog) w 85 4 i0 _ Try.underlying85 hi hz .i64 .i64 N N (by omega) (Int.le_refl _) (by rw [h2]; omega) (by omega)
  have e : madeCells (Value.bool false).cells (N * 1) = zbools N := by
    rw [Nat.mul_one]; apply Array.ext
    · simp [madeCells, zbools]
    · intro j h3 h4; simp [madeCells, zbools, Value.cells, Nat.mod_one]
  simp only [Int.toNat_natCast, h1, e] at this
  exact this

theorem zbytes_row {w : World} {g L : Nat} (h : w.heap[g]? = some (.cells (zbytes L) 5)) (hL : L ≤ 1048576) : CR w g 5 1 L L (bvs (List.replicate L 0)) := by
  refine ⟨by simp [bvs], Nat.le_refl _, by unfold maxLen; omega, _, h, by simp [zbytes], ?_⟩
  rw [List.take_of_length_le (by simp [zbytes])]
  simp [zbytes, bvs, bv]
theorem zbools_row {w : World} {g L : Nat} (h : w.heap[g]? = some (.cells (zbools L) 4)) (hL : L ≤ 1048576) : CR w g 4 1 L L (tbs (List.replicate L false)) := by
  refine ⟨by simp [tbs], Nat.le_refl _, by unfold maxLen; omega, _, h, by simp [zbools], ?_⟩
  rw [List.take_of_length_le (by simp [zbools])]
  simp [zbools, tbs]

set_option maxHeartbeats 2000000 in
theorem rm_new_yes (N : Nat) (hN : N % 8 = 0 ∧ 8 ≤ N ∧ N ≤ 131072) (w : World) :
    Calls Try.prog 12 #[.int .i64 (8 * N : Nat)] w fun e w' => ∃ x : MB, e = .returned (.pointer (some ⟨x.p, 0, none⟩)) ∧ RM w' x N (List.replicate (8 * N) 0) (List.replicate (8 * N) 0) (List.replicate N false) ∧ (∀ k, x.F k → w.heap.size ≤ k) ∧ Grow w w' := by
  obtain ⟨n, hn⟩ : ∃ n, n = 8 * N := ⟨_, rfl⟩
  have z1 : decide ((n : Int) < 64) = false := decide_eq_false (by omega)
  have z2 : decide (1048576 < (n : Int)) = false := decide_eq_false (by omega)
  have z3 : (Int.tmod (n : Int) 64 != 0) = false := by rw [Int.tmod_eq_emod_of_nonneg (by omega), show (n : Int) % 64 = 0 by omega]; rfl
  have z4 : ((n : Int) % 64 != 0) = false := by rw [show (n : Int) % 64 = 0 by omega]; rfl
  have e0 : (n : Int) / 8 = (N : Int) := by clear z1 z2 z3 z4; omega
  have e1 : Int.tdiv (n : Int) 8 = (N : Int) := by clear e0; rw [Int.tdiv_eq_ediv_of_nonneg (by omega)]; omega
  have e2 := wrap_small (q := N) (by have := hN.2.2; clear z1 z2 z3 z4 e0 e1; omega)
  have hmk := make_bytes n (by clear z1 z2 z3 z4 e0 e1 e2; omega)
  have hmb := make_bools N (by clear z1 z2 z3 z4 e0 e1 e2; omega)
  have HN := Lib.hid hN
  have HNN := Lib.hid hn
  rw [← hn]
  clear hn hN
  go_enter Try.func12, Try.ntmps12
  go_wp2_with fail
  go_ret
  obtain ⟨q0, q1, q2, q3⟩ := alloc4 w (.cells #[.slice (some ⟨w.heap.size + 1, 0, none⟩) n n, .slice (some ⟨w.heap.size + 1 + 1, 0, none⟩) n n, .slice (some ⟨w.heap.size + 1 + 1 + 1, 0, none⟩) N N] 87) (.cells (zbytes n) 5) (.cells (zbytes n) 5) (.cells (zbools N) 4)
  have hn := HNN.out
  have hN := HN.out
  refine ⟨⟨w.heap.size, w.heap.size + 1, w.heap.size + 1 + 1, w.heap.size + 1 + 1 + 1⟩, rfl, ⟨n, n, N, hN, by unfold MB.apart; simp; try omega, ⟨rfl, Nat.le_refl _, by unfold maxLen; clear e0 e1 e2 z1 z2 z3 z4; omega, _, q0, rfl, ?_⟩, ?_, ?_, ?_⟩, fun k hk => by (rcases hk with h | h | h | h <;> simp at h <;> omega), ((((Grow.refl w).alloc _).alloc _).alloc _).alloc _⟩
  · rw [← hn]; rfl
  · have := zbytes_row q1 (by clear e0 e1 e2 z1 z2 z3 z4; omega); rw [← hn]; exact this
  · have := zbytes_row q2 (by clear e0 e1 e2 z1 z2 z3 z4; omega); rw [← hn]; exact this
  · exact zbools_row q3 (by clear e0 e1 e2 z1 z2 z3 z4; omega)
end Go.Proofs.Ytdlcpfgogjcciaa

namespace Go.Proofs.Ytdlcpfgogjcciaa
open Go.RowKit Go.Great

structure P20 (W w : World) (pb c d z : Nat) (x y : MB) (s t : CS) : Prop where
  cd : CD w c x s
  rd : RD20 w d z y t
  row : Row w pb [.pointer (some ⟨x.p, 0, none⟩), .pointer (some ⟨c, 0, none⟩), .pointer (some ⟨y.p, 0, none⟩), .pointer (some ⟨d, 0, none⟩)]
  grow : Grow W w
  xW : ∀ k, x.F k → W.heap.size ≤ k
  yW : ∀ k, y.F k → W.heap.size ≤ k
  cW : W.heap.size ≤ c
  dW : W.heap.size ≤ d
  zW : W.heap.size ≤ z
  pW : W.heap.size ≤ pb
  xy : ∀ k, x.F k → ¬ y.F k
  xd : ¬ x.F d
  xz : ¬ x.F z
  xp : ¬ x.F pb
  yc : ¬ y.F c
  yp : ¬ y.F pb
  cd' : ¬ c = d
  cz : ¬ c = z
  cp : ¬ c = pb
  dp : ¬ d = pb
  zp : ¬ z = pb
/-- The pair at pb. -/
def B20 (W w : World) (pb : Nat) (s : CS) : Prop := ∃ c d z x y, P20 W w pb c d z x y s s
section
variable {W w w' : World} {pb c d z : Nat} {x y : MB} {s t : CS}
theorem RD20.turn {F : Nat → Prop} (h : RD20 w d z y s) (t : Turn F w w') (n1 : ∀ k, F k → ¬ y.F k) (n2 : ¬ F d) (n3 : ¬ F z) : RD20 w' d z y s := ⟨h.1.turn t n1, h.2.1.turnW t n2, h.2.2.1.turnW t n3, h.2.2.2⟩
theorem CD.turn {F : Nat → Prop} (h : CD w c x s) (t : Turn F w w') (n1 : ∀ k, F k → ¬ x.F k) (n2 : ¬ F c) : CD w' c x s := ⟨h.1.turn t n1, h.2.1.turnW t n2, h.2.2⟩
theorem P20.keep (h : P20 W w pb c d z x y s t) (G : Grow w w') : P20 W w' pb c d z x y s t := { h with cd := h.cd.keep G, rd := h.rd.keep G, row := h.row.keep G, grow := h.grow.trans G }
theorem B20.keep (h : B20 W w pb s) (G : Grow w w') : B20 W w' pb s := by
  obtain ⟨c, d, z, x, y, h⟩ := h
  exact ⟨c, d, z, x, y, h.keep G⟩
theorem P20.card (h : P20 W w pb c d z x y s t) {s' : CS} (k : CD w' c x s') (T : Turn (fun k => x.F k ∨ k = c) w w') : P20 W w' pb c d z x y s' t :=
  { h with cd := k, rd := h.rd.turn T (fun k e => e.elim (h.xy k) (fun e => by rw [e]; exact h.yc)) (fun e => e.elim h.xd (fun e => h.cd' e.symm)) (fun e => e.elim h.xz (fun e => h.cz e.symm)),
           row := h.row.turnW T (fun e => e.elim h.xp (fun e => h.cp e.symm)), grow := h.grow.low (T.low (fun i e => e.elim (h.xW i) (fun e => by rw [e]; exact h.cW)) h.grow.size) }
theorem P20.doc (h : P20 W w pb c d z x y s t) {t' : CS} (k : RD20 w' d z y t') (T : Turn (fun k => y.F k ∨ k = d ∨ k = z) w w') : P20 W w' pb c d z x y s t' :=
  { h with rd := k, cd := h.cd.turn T (fun k e e2 => e.elim (h.xy k e2) (fun e => e.elim (fun e => by rw [e] at e2; exact h.xd e2) (fun e => by rw [e] at e2; exact h.xz e2))) (fun e => e.elim h.yc (fun e => e.elim h.cd' h.cz)),
           row := h.row.turnW T (fun e => e.elim h.yp (fun e => e.elim (fun e => h.dp e.symm) (fun e => h.zp e.symm))), grow := h.grow.low (T.low (fun i e => e.elim (h.yW i) (fun e => e.elim (fun e => by rw [e]; exact h.dW) (fun e => by rw [e]; exact h.zW))) h.grow.size) }
theorem P20.crash (h : P20 W w pb c d z x y s t) {g' : Nat} {m : MM} (hg : w.heap.size ≤ g') (k : PM w' ⟨x.p, g', x.gt, x.b⟩ 2896 m.S m.T m.A) (T : Turn x.F w w') : P20 W w' pb c d z ⟨x.p, g', x.gt, x.b⟩ y { s with m := m } t := by
  have n : ∀ j, (⟨x.p, g', x.gt, x.b⟩ : MB).F j → x.F j ∨ w.heap.size ≤ j := fun j e => by
    rcases e with e | e | e | e
    · exact .inl (.inl e)
    · exact .inr (by have e' : j = g' := e; omega)
    · exact .inl (.inr (.inr (.inl e)))
    · exact .inl (.inr (.inr (.inr e)))
  have hW := h.grow.size
  have lc := h.cd.2.1.1.1
  have ld := h.rd.2.1.1.1
  have lz := h.rd.2.2.1.1.1
  have lp := h.row.1.1
  exact
    { h with cd := ⟨k, h.cd.2.1.turnW T h.cd.2.2.1, fun e => (n _ e).elim h.cd.2.2.1 (fun e => by omega), h.cd.2.2.2.len, h.cd.2.2.2.sides⟩,
             rd := h.rd.turn T h.xy h.xd h.xz, row := h.row.turnW T h.xp, grow := h.grow.low (T.low (fun i e => h.xW i e) hW),
             xW := fun j e => (n j e).elim (h.xW j) (fun e => by omega), xy := fun j e e2 => (n j e).elim (fun e => h.xy j e e2) (fun e => by have := h.rd.1.lt j e2; omega),
             xd := fun e => (n _ e).elim h.xd (fun e => by omega), xz := fun e => (n _ e).elim h.xz (fun e => by omega), xp := fun e => (n _ e).elim h.xp (fun e => by omega) }
end
set_option maxRecDepth 8000 in
theorem new_ref {w : World} {y : MB} (h : RM w y 2896 (newS 2896).m.S (newS 2896).m.T (newS 2896).m.A) : Calls Try.prog 13 #[.pointer (some ⟨y.p, 0, none⟩)] w fun r w' => ∃ d z, r = .returned (.pointer (some ⟨d, 0, none⟩)) ∧ RD20 w' d z y (newS 2896) ∧ Grow w w' ∧ w.heap.size ≤ d ∧ w.heap.size ≤ z := by
  have HM := Lib.hid h
  clear h
  go_enter Try.func13, Try.ntmps13
  go_upto_region 1 with (fail)
  refine wp_region_list ?_
  refine wpList_runTo rfl (some 3) rfl (.pointer (some ⟨y.p, 0, none⟩)) w (by first | (go_simp; done) | rfl) ?_
  have hz := Row.new w 64 (cellsL (newS 2896).L) _ rfl
  have gz := (Grow.refl w).alloc (.cells (cellsL (newS 2896).L).toArray 64)
  refine wpList_allocTo rfl (some 4) rfl (.slice (some ⟨w.heap.size, 0, none⟩) 8 8) (.cells (cellsL (newS 2896).L).toArray 64) (by kernel_rfl) ?_
  obtain ⟨w1, hw1⟩ : ∃ u, u = w.alloc (.cells (cellsL (newS 2896).L).toArray 64) := ⟨_, rfl⟩
  obtain ⟨z, hzz⟩ : ∃ u, u = w.heap.size := ⟨_, rfl⟩
  rw [← hw1] at hz gz ⊢
  rw [← hzz] at hz ⊢
  refine wpList_buildTo rfl 67 _ rfl (some 5) rfl #[.pointer (some ⟨y.p, 0, none⟩), .slice (some ⟨z, 0, none⟩) 8 8, .bool false] (by kernel_rfl) ?_
  have hd := Row.new w1 67 [.pointer (some ⟨y.p, 0, none⟩), .slice (some ⟨z, 0, none⟩) 8 8, .bool false] _ rfl
  have gd := (Grow.refl w1).alloc (.cells #[.pointer (some ⟨y.p, 0, none⟩), .slice (some ⟨z, 0, none⟩) 8 8, .bool false] 67)
  refine wpList_boxTo rfl 67 (.tmp 5) rfl (some 6) rfl w1.heap.size rfl #[.pointer (some ⟨y.p, 0, none⟩), .slice (some ⟨z, 0, none⟩) 8 8, .bool false] (by first | (go_simp; done) | rfl) ?_
  obtain ⟨w2, hw2⟩ : ∃ u, u = w1.alloc (.cells #[.pointer (some ⟨y.p, 0, none⟩), .slice (some ⟨z, 0, none⟩) 8 8, .bool false] 67) := ⟨_, rfl⟩
  obtain ⟨d, hdd⟩ : ∃ u, u = w1.heap.size := ⟨_, rfl⟩
  rw [← hw2] at hd gd ⊢
  rw [← hdd] at hd ⊢
  have hzl := hz.1.1
  have HZ := Lib.hid (hz.keep gd)
  have HD := Lib.hid hd
  have HG := Lib.hid (gz.trans gd)
  have HQ := Lib.hid (And.intro hzz (And.intro (show z < d by omega) (show w.heap.size ≤ d by have := gz.size; omega)))
  clear hw1 hw2 hz hd gz gd hzz hdd hzl
  go_wp2_with fail
  go_ret
  obtain ⟨q1, q2, q3⟩ := HQ.out
  refine ⟨d, z, rfl, ⟨HM.out.keep HG.out, HD.out, HZ.out, fun e => ?_, fun e => ?_, by omega, newS_ok _⟩, HG.out, q3, by omega⟩
  · have := HM.out.lt _ e; omega
  · have := HM.out.lt _ e; omega
set_option maxRecDepth 8000 in
theorem begin20 (W : World) : Calls Try.prog 4 #[] W fun r w' => ∃ pb, r = .returned (.pointer (some ⟨pb, 0, none⟩)) ∧ B20 W w' pb (newS 2896) := by
  go_enter Try.func4, Try.ntmps4
  go_wp2_with fail
  refine (pm_new_yes 2896 (by decide) _).mono ?_
  rintro r w1 ⟨x, rfl, hx, hxW, g1⟩
  have HX := Lib.hid hx
  have HG1 := Lib.hid g1
  have HXW := Lib.hid hxW
  clear hx g1 hxW
  go_wp2_with fail
  refine (new_card HX.out).mono ?_
  rintro r w2 ⟨c, rfl, hc, g2, hcw⟩
  have HC := Lib.hid hc
  have HG2 := Lib.hid (HG1.out.trans g2)
  have HCW := Lib.hid hcw
  clear hc g2 hcw
  go_wp2_with fail
  refine (rm_new_yes 2896 (by decide) _).mono ?_
  rintro r w3 ⟨y, rfl, hy, hyW, g3⟩
  have HY := Lib.hid hy
  have HG3 := Lib.hid (show Grow w2 w3 from g3)
  have HYW := Lib.hid hyW
  clear hy g3 hyW
  go_wp2_with fail
  refine (new_ref HY.out).mono ?_
  rintro r w4 ⟨d, z, rfl, hd, g4, hdw, hzw⟩
  have HD := Lib.hid hd
  have HG4 := Lib.hid (show Grow w3 w4 from g4)
  have HDW := Lib.hid (And.intro hdw hzw)
  clear hd g4 hdw hzw
  have hr := Row.new w4 51 [.pointer (some ⟨x.p, 0, none⟩), .pointer (some ⟨c, 0, none⟩), .pointer (some ⟨y.p, 0, none⟩), .pointer (some ⟨d, 0, none⟩)] _ rfl
  have ga := (Grow.refl w4).alloc (.cells #[.pointer (some ⟨x.p, 0, none⟩), .pointer (some ⟨c, 0, none⟩), .pointer (some ⟨y.p, 0, none⟩), .pointer (some ⟨d, 0, none⟩)] 51)
  have HR := Lib.hid hr
  have HGA := Lib.hid ga
  clear hr ga
  go_wp2_with fail
  go_ret
  have c1 := HC.out.2.1.1.1
  have d1 := HD.out.2.1.1.1
  have z1 := HD.out.2.2.1.1.1
  have s1 := HG1.out.size
  have s2 := HG2.out.size
  have s3 := HG3.out.size
  have s4 := HG4.out.size
  have q1 := HCW.out
  have q2 := HDW.out.1
  have q3 := HDW.out.2
  have hxl : ∀ k, x.F k → k < w1.heap.size := fun k e => HX.out.lt k e
  have hyl : ∀ k, y.F k → w2.heap.size ≤ k ∧ k < w3.heap.size := fun k e => ⟨HYW.out k e, HY.out.lt k e⟩
  exact ⟨_, rfl, c, d, z, x, y,
    { cd := ((HC.out.keep HG3.out).keep HG4.out).keep HGA.out, rd := HD.out.keep HGA.out, row := HR.out, grow := ((HG2.out.trans HG3.out).trans HG4.out).trans HGA.out,
       xW := HXW.out, yW := fun k e => by have := (hyl k e).1; omega, cW := by omega, dW := by omega, zW := by omega, pW := by omega,
       xy := fun k e e2 => by have := hxl k e; have := (hyl k e2).1; omega, xd := fun e => by have := hxl _ e; omega, xz := fun e => by have := hxl _ e; omega, xp := fun e => by have := hxl _ e; omega,
       yc := fun e => by have := (hyl _ e).1; omega, yp := fun e => by have := (hyl _ e).2; omega, cd' := by omega, cz := by omega, cp := by omega, dp := by omega, zp := by omega }⟩
end Go.Proofs.Ytdlcpfgogjcciaa

namespace Go.Proofs.Ytdlcpfgogjcciaa
open Go.RowKit Go.Great

def cutD (k : Nat) (s : ByteArray) : ByteArray := if k < s.size then s.extract 0 k else s
theorem cutD_size (k : Nat) (s : ByteArray) : (cutD k s).size ≤ s.size := by
  unfold cutD
  split
  · simp [ByteArray.size_extract]; omega
  · exact Nat.le_refl _
def cutP (p : PK) : PK := { p with data := cutD 140 p.data }
theorem cutP_ok {p : PK} (h : p.ok) : (cutP p).ok := { h with data := Nat.le_trans (cutD_size 140 p.data) h.data }
theorem cut_ret {w : World} {y : Nat} {vs : List Value} {tmps : Array Value} (h2 : tmps.getD 2 undef = .pointer (some ⟨y, 0, none⟩)) (hg : Blk w y vs) (hsz : vs.length = 43) :
    (results Try.f6 tmps).run Try.prog w = .ok (.agg vs.toArray) w := by
  have hp' : tmps[2]?.getD undef = .pointer (some ⟨y, 0, none⟩) := by simpa using h2
  simp [results, Try.results6, hp', asAddr, run_loadVar_mid (P := Try.prog) w y 0 36 vs _ hg.range Try.underlying36 rfl (by rw [hsz]; exact pk_size)]
set_option maxHeartbeats 8000000 in
set_option maxRecDepth 8000 in
theorem cut20 {W : World} {A : Option Addr} {k c : Nat} (p : PK) :
    Calls Try.prog 6 #[.agg (p.cells (.slice A k c)).toArray] W fun e w' => e = .returned (.agg ((cutP p).cells (.slice A k c)).toArray) ∧ Grow W w' := by
  obtain ⟨w1, b, hw1, hb, b1, g1, hl1⟩ := boxedP W p (.slice A k c)
  have hz := Row.new w1 36 zP #[.int .i64 0, .int .i64 0, .int .i64 0, .int .i64 0, .int .i64 0, .int .i64 0, .int .i64 0, .string ⟨#[]⟩, .int .i64 0, .int .i64 0, .int .i64 0, .string ⟨#[]⟩, .string ⟨#[]⟩, .int .i64 0, .int .i64 0, .int .i64 0, .int .i64 0, .string ⟨#[]⟩, .int .i64 0, .int .i64 0, .int .i64 0, .int .i64 0, .string ⟨#[]⟩, .slice none 0 0, .int .i64 0, .int .i64 0, .int .i64 0, .int .i64 0, .int .i64 0, .int .i64 0, .int .i64 0, .int .i64 0, .int .i64 0, .int .i64 0, .int .i64 0, .int .i64 0, .int .i64 0, .int .i64 0, .int .i64 0, .int .i64 0, .int .i64 0, .int .i64 0, .int .i64 0] rfl
  have gz := (Grow.refl w1).alloc (.cells #[.int .i64 0, .int .i64 0, .int .i64 0, .int .i64 0, .int .i64 0, .int .i64 0, .int .i64 0, .string ⟨#[]⟩, .int .i64 0, .int .i64 0, .int .i64 0, .string ⟨#[]⟩, .string ⟨#[]⟩, .int .i64 0, .int .i64 0, .int .i64 0, .int .i64 0, .string ⟨#[]⟩, .int .i64 0, .int .i64 0, .int .i64 0, .int .i64 0, .string ⟨#[]⟩, .slice none 0 0, .int .i64 0, .int .i64 0, .int .i64 0, .int .i64 0, .int .i64 0, .int .i64 0, .int .i64 0, .int .i64 0, .int .i64 0, .int .i64 0, .int .i64 0, .int .i64 0, .int .i64 0, .int .i64 0, .int .i64 0, .int .i64 0, .int .i64 0, .int .i64 0, .int .i64 0] 36)
  obtain ⟨w2, hw2⟩ : ∃ z, z = w1.alloc (.cells #[.int .i64 0, .int .i64 0, .int .i64 0, .int .i64 0, .int .i64 0, .int .i64 0, .int .i64 0, .string ⟨#[]⟩, .int .i64 0, .int .i64 0, .int .i64 0, .string ⟨#[]⟩, .string ⟨#[]⟩, .int .i64 0, .int .i64 0, .int .i64 0, .int .i64 0, .string ⟨#[]⟩, .int .i64 0, .int .i64 0, .int .i64 0, .int .i64 0, .string ⟨#[]⟩, .slice none 0 0, .int .i64 0, .int .i64 0, .int .i64 0, .int .i64 0, .int .i64 0, .int .i64 0, .int .i64 0, .int .i64 0, .int .i64 0, .int .i64 0, .int .i64 0, .int .i64 0, .int .i64 0, .int .i64 0, .int .i64 0, .int .i64 0, .int .i64 0, .int .i64 0, .int .i64 0] 36) := ⟨_, rfl⟩
  obtain ⟨r, hr⟩ : ∃ z, z = w1.heap.size := ⟨_, rfl⟩
  rw [← hw2] at hz gz
  rw [← hr] at hz
  have HB := Lib.hid (b1.keep gz)
  have HR := Lib.hid hz
  have HG := Lib.hid (g1.trans gz)
  have hrb : ¬ b = r := by omega
  have HBW := Lib.hid (show W.heap.size ≤ b ∧ W.heap.size ≤ r by have := g1.size; omega)
  have HW2 := Lib.hid hw2
  have HRR := Lib.hid hr
  clear b1 g1 hz gz hw2 hr hl1
  obtain ⟨P0, hP0⟩ : ∃ z, z = (p.cells (.slice A k c)).toArray := ⟨_, rfl⟩
  rw [← hP0]
  go_enter Try.func6, Try.ntmps6
  go_upto_region 0 with (fail)
  refine wp_region_list ?_
  refine wpList_boxTo rfl 36 (.tmp 0) rfl (some 1) rfl b hb.symm P0 rfl ?_
  rw [hP0, show (p.cells (.slice A k c)).toArray = #[.int .i64 p.kind, .int .i64 p.client, .int .i64 p.epoch, .int .i64 p.seq, .int .i64 p.op, .int .i64 p.at_, .int .i64 p.n, .string p.data, .int .i64 p.old, .int .i64 p.new, .int .i64 p.ckind, .string p.path, .string p.path2, .int .i64 p.flags, .int .i64 p.cfd, .int .i64 p.coff, .int .i64 p.cn, .string p.cdata, .int .i64 p.ino, .int .i64 p.errno, .int .i64 p.rerrno, .int .i64 p.rfd, .string p.rdata, .slice A k c, .int .i64 p.ikind, .int .i64 p.ilinks, .int .i64 p.isize, .int .i64 p.wrote, .int .i64 p.nkind, .int .i64 p.nlinks, .int .i64 p.nsize, .int .i64 p.b0, .int .i64 p.b1, .int .i64 p.b2, .int .i64 p.b3, .int .i64 p.o0, .int .i64 p.o1, .int .i64 p.o2, .int .i64 p.o3, .int .i64 p.o4, .int .i64 p.o5, .int .i64 p.o6, .int .i64 p.o7] from rfl, ← hw1]
  clear hw1 hb hP0 P0
  go_simp
  refine wpList_allocTo rfl (some 2) rfl (.pointer (some ⟨r, 0, none⟩)) (.cells #[.int .i64 0, .int .i64 0, .int .i64 0, .int .i64 0, .int .i64 0, .int .i64 0, .int .i64 0, .string ⟨#[]⟩, .int .i64 0, .int .i64 0, .int .i64 0, .string ⟨#[]⟩, .string ⟨#[]⟩, .int .i64 0, .int .i64 0, .int .i64 0, .int .i64 0, .string ⟨#[]⟩, .int .i64 0, .int .i64 0, .int .i64 0, .int .i64 0, .string ⟨#[]⟩, .slice none 0 0, .int .i64 0, .int .i64 0, .int .i64 0, .int .i64 0, .int .i64 0, .int .i64 0, .int .i64 0, .int .i64 0, .int .i64 0, .int .i64 0, .int .i64 0, .int .i64 0, .int .i64 0, .int .i64 0, .int .i64 0, .int .i64 0, .int .i64 0, .int .i64 0, .int .i64 0] 36) (by rw [HRR.out]; kernel_rfl) ?_
  rw [← HW2.out]
  clear HW2 HRR
  have c7 : w2.cell? ⟨b, 7, none⟩ = some (.string p.data) := HB.out.1.2 7 _ rfl
  have f7 := HB.out.2 7 (show 7 < 43 by decide)
  by_cases h : 140 < p.data.size
  · have z1 : decide (140 < p.data.size) = true := decide_eq_true h
    have z2 : decide ((140 : Int) < (p.data.size : Int)) = true := decide_eq_true (by omega)
    have HC := Lib.hid (show cutP p = { p with data := p.data.extract 0 140 } by unfold cutP cutD; rw [if_pos h])
    have t : Turn (fun j => j = b) w2 (w2.setCell ⟨b, 7, none⟩ (.string (p.data.extract 0 140))) := Turn.setCell (F := fun j => j = b) w2 (p := ⟨b, 7, none⟩) rfl _
    have HB2 := Lib.hid (show Row (w2.setCell ⟨b, 7, none⟩ (.string (p.data.extract 0 140))) b ((({ p with data := p.data.extract 0 140 } : PK)).cells (.slice A k c)) from HB.out.set (j := 7) (show 7 < 43 by decide))
    have HR2 := Lib.hid (HR.out.turnW t (fun e => hrb e.symm))
    have HT2 := Lib.hid t
    clear t
    go_upto_region 3 with (fail)
    obtain ⟨w3, hw3⟩ : ∃ z, z = w2.setCell ⟨b, 7, none⟩ (.string (p.data.extract 0 140)) := ⟨_, rfl⟩
    rw [← hw3] at HB2 HR2 HT2 ⊢
    rw [← HC.out] at HB2
    clear hw3 c7 f7 z1 z2
    refine wp_region_list ?_
    refine wpList_loadRow rfl 36 (.tmp 1) rfl (some 11) rfl b (by first | (go_simp; done) | rfl) ((cutP p).cells (.slice A k c)) _ HB2.out.1 Try.underlying36 rfl pk_size ?_
    refine wpList_storeRow rfl 36 (.tmp 2) (.tmp 11) rfl rfl r (by first | (go_simp; done) | rfl) ((cutP p).cells (.slice A k c)) zP (by first | (go_simp; done) | rfl) HR2.out rfl pk_size (PK.one _ rfl) ?_
    intro wz rz tz sz
    have HZ := Lib.hid rz
    have HTZ := Lib.hid tz
    clear rz tz sz
    go_wp2_with fail
    refine bodyPost_ret (cut_ret rfl HZ.out.1 rfl) rfl ?_
    have q := HBW.out
    have g3 : Grow W w3 := HG.out.low (HT2.out.low (B := W.heap.size) (fun i e => by have e' : i = b := e; omega) HG.out.size)
    exact ⟨rfl, g3.low (HTZ.out.low (B := W.heap.size) (fun i e => by have e' : i = r := e; omega) g3.size)⟩
  · have z1 : decide (140 < p.data.size) = false := decide_eq_false h
    have z2 : decide ((140 : Int) < (p.data.size : Int)) = false := decide_eq_false (by omega)
    have HC := Lib.hid (show cutP p = p by unfold cutP cutD; rw [if_neg h])
    go_upto_region 3 with (fail)
    rw [← HC.out] at HB
    clear c7 f7 z1 z2
    refine wp_region_list ?_
    refine wpList_loadRow rfl 36 (.tmp 1) rfl (some 11) rfl b (by first | (go_simp; done) | rfl) ((cutP p).cells (.slice A k c)) _ HB.out.1 Try.underlying36 rfl pk_size ?_
    refine wpList_storeRow rfl 36 (.tmp 2) (.tmp 11) rfl rfl r (by first | (go_simp; done) | rfl) ((cutP p).cells (.slice A k c)) zP (by first | (go_simp; done) | rfl) HR.out rfl pk_size (PK.one _ rfl) ?_
    intro wz rz tz sz
    have HZ := Lib.hid rz
    have HTZ := Lib.hid tz
    clear rz tz sz
    go_wp2_with fail
    refine bodyPost_ret (cut_ret rfl HZ.out.1 rfl) rfl ?_
    have q := HBW.out
    exact ⟨rfl, HG.out.low (HTZ.out.low (B := W.heap.size) (fun i e => by have e' : i = r := e; omega) HG.out.size)⟩
end Go.Proofs.Ytdlcpfgogjcciaa

namespace Go.Proofs.Ytdlcpfgogjcciaa
open Go.RowKit Go.Great

/-- The method of a verb. -/
def vbM (op : Int) : FuncId := if op = 2 then 23 else if op = 3 then 24 else if op = 4 then 25 else 22
theorem vbM_enter (op : Int) : EntersF (vbM op) := by
  unfold vbM
  repeat' split
  · exact entersF Try.func23 (by kernel_rfl) rfl
  · exact entersF Try.func24 (by kernel_rfl) rfl
  · exact entersF Try.func25 (by kernel_rfl) rfl
  · exact entersF Try.func22 (by kernel_rfl) rfl
theorem verb_v {w : World} {c g : Nat} {x : MB} {m : MM} (hm : PM w x 2896 m.S m.T m.A) (hc : w.cell? ⟨c, 0, none⟩ = some (.pointer (some ⟨x.p, 0, none⟩))) (hcF : ¬ x.F c) {p : PK} (ha : AskOk p) (hi : p.ok) (hr : Row w g ((askP p).cells (.slice none 0 0))) (hgF : ¬ x.F g) (hcg : ¬ c = g) (nv : Value) :
    Calls Try.prog (vbM p.op) #[.pointer (some ⟨c, 0, none⟩), .agg (p.cells nv).toArray, .pointer (some ⟨g, 0, none⟩)] w fun e w' => e = .returned (.tuple #[]) ∧ VDone w w' x g (verbV m p) := by
  unfold vbM verbV
  by_cases h2 : p.op = 2
  · rw [if_pos h2, if_pos h2]
    exact get_v hm hc ha hi hr hgF nv
  rw [if_neg h2, if_neg h2]
  by_cases h3 : p.op = 3
  · rw [if_pos h3, if_pos h3]
    exact flush_v hm hc hcF ha hi hr hgF nv
  rw [if_neg h3, if_neg h3]
  by_cases h4 : p.op = 4
  · rw [if_pos h4, if_pos h4]
    exact swap_v hm hc hcF ha hi hr hgF hcg nv
  rw [if_neg h4, if_neg h4]
  exact put_v hm hc hcF ha hi hr hgF nv

set_option maxHeartbeats 16000000 in
set_option maxRecDepth 8000 in
theorem card_do {W : World} {c : Nat} {x : MB} {s : CS} (h : CD W c x s) (p : PK) (hp : p.ok) {A : Option Addr} {k cc : Nat} (hk : k = p.names.length) (hr : RS W A k p.names) (hA : 0 < k → ∀ q, A = some q → ¬ (x.F q.block ∨ q.block = c)) :
    Calls Try.prog 8 #[.pointer (some ⟨c, 0, none⟩), .agg (p.cells (.slice A k cc)).toArray] W fun e w' => e = .returned (.tuple #[.agg ((doP s p).1.cells (.slice none 0 0)).toArray, .bool (doP s p).2.1]) ∧ CD w' c x (doP s p).2.2 ∧ Turn (fun k => x.F k ∨ k = c) W w' := by
  obtain ⟨m, L, f⟩ := s
  obtain ⟨h1, h2, h3, h4⟩ := h
  have HOK := Lib.hid h4
  have HP := Lib.hid hp
  have HK := Lib.hid hk
  have HR0 := Lib.hid hr
  have HA := Lib.hid hA
  obtain ⟨w1, b, hw1, hb, b1, g1, hl1⟩ := boxedP W p (.slice A k cc)
  have hz := Row.new w1 36 zP #[.int .i64 0, .int .i64 0, .int .i64 0, .int .i64 0, .int .i64 0, .int .i64 0, .int .i64 0, .string ⟨#[]⟩, .int .i64 0, .int .i64 0, .int .i64 0, .string ⟨#[]⟩, .string ⟨#[]⟩, .int .i64 0, .int .i64 0, .int .i64 0, .int .i64 0, .string ⟨#[]⟩, .int .i64 0, .int .i64 0, .int .i64 0, .int .i64 0, .string ⟨#[]⟩, .slice none 0 0, .int .i64 0, .int .i64 0, .int .i64 0, .int .i64 0, .int .i64 0, .int .i64 0, .int .i64 0, .int .i64 0, .int .i64 0, .int .i64 0, .int .i64 0, .int .i64 0, .int .i64 0, .int .i64 0, .int .i64 0, .int .i64 0, .int .i64 0, .int .i64 0, .int .i64 0] rfl
  have gz := (Grow.refl w1).alloc (.cells #[.int .i64 0, .int .i64 0, .int .i64 0, .int .i64 0, .int .i64 0, .int .i64 0, .int .i64 0, .string ⟨#[]⟩, .int .i64 0, .int .i64 0, .int .i64 0, .string ⟨#[]⟩, .string ⟨#[]⟩, .int .i64 0, .int .i64 0, .int .i64 0, .int .i64 0, .string ⟨#[]⟩, .int .i64 0, .int .i64 0, .int .i64 0, .int .i64 0, .string ⟨#[]⟩, .slice none 0 0, .int .i64 0, .int .i64 0, .int .i64 0, .int .i64 0, .int .i64 0, .int .i64 0, .int .i64 0, .int .i64 0, .int .i64 0, .int .i64 0, .int .i64 0, .int .i64 0, .int .i64 0, .int .i64 0, .int .i64 0, .int .i64 0, .int .i64 0, .int .i64 0, .int .i64 0] 36)
  obtain ⟨w2, hw2⟩ : ∃ z, z = w1.alloc (.cells #[.int .i64 0, .int .i64 0, .int .i64 0, .int .i64 0, .int .i64 0, .int .i64 0, .int .i64 0, .string ⟨#[]⟩, .int .i64 0, .int .i64 0, .int .i64 0, .string ⟨#[]⟩, .string ⟨#[]⟩, .int .i64 0, .int .i64 0, .int .i64 0, .int .i64 0, .string ⟨#[]⟩, .int .i64 0, .int .i64 0, .int .i64 0, .int .i64 0, .string ⟨#[]⟩, .slice none 0 0, .int .i64 0, .int .i64 0, .int .i64 0, .int .i64 0, .int .i64 0, .int .i64 0, .int .i64 0, .int .i64 0, .int .i64 0, .int .i64 0, .int .i64 0, .int .i64 0, .int .i64 0, .int .i64 0, .int .i64 0, .int .i64 0, .int .i64 0, .int .i64 0, .int .i64 0] 36) := ⟨_, rfl⟩
  obtain ⟨r, hr'⟩ : ∃ z, z = w1.heap.size := ⟨_, rfl⟩
  rw [← hw2] at hz gz
  rw [← hr'] at hz
  have hcl := h2.1.1
  have HD := Lib.hid (show DoS W w2 c b r x m L f p (.slice A k cc) zP from
    { mem := h1.keep (g1.trans gz), card := h2.keep (g1.trans gz), pk := b1.keep gz, res := hz, turn := Turn.grow (g1.trans gz) _, cF := h3,
      bF := fun q => by have := h1.lt _ q; omega, rF := fun q => by have := h1.lt _ q; have := g1.size; omega, bc := by omega, rc := by have := g1.size; omega, rb := by omega,
      hb := by omega, hr := by have := g1.size; omega, len := h4.len })
  have HW2 := Lib.hid hw2
  have HRR := Lib.hid hr'
  clear h1 h2 h3 h4 hp hk hr hA b1 g1 hz gz hcl hw2 hr'
  obtain ⟨P0, hP0⟩ : ∃ z, z = (p.cells (.slice A k cc)).toArray := ⟨_, rfl⟩
  rw [← hP0]
  go_enter Try.func8, Try.ntmps8
  go_upto_region 0 with (fail)
  refine wp_region_list ?_
  refine wpList_boxTo rfl 36 (.tmp 1) rfl (some 3) rfl b hb.symm P0 rfl ?_
  rw [hP0, show (p.cells (.slice A k cc)).toArray = #[.int .i64 p.kind, .int .i64 p.client, .int .i64 p.epoch, .int .i64 p.seq, .int .i64 p.op, .int .i64 p.at_, .int .i64 p.n, .string p.data, .int .i64 p.old, .int .i64 p.new, .int .i64 p.ckind, .string p.path, .string p.path2, .int .i64 p.flags, .int .i64 p.cfd, .int .i64 p.coff, .int .i64 p.cn, .string p.cdata, .int .i64 p.ino, .int .i64 p.errno, .int .i64 p.rerrno, .int .i64 p.rfd, .string p.rdata, .slice A k cc, .int .i64 p.ikind, .int .i64 p.ilinks, .int .i64 p.isize, .int .i64 p.wrote, .int .i64 p.nkind, .int .i64 p.nlinks, .int .i64 p.nsize, .int .i64 p.b0, .int .i64 p.b1, .int .i64 p.b2, .int .i64 p.b3, .int .i64 p.o0, .int .i64 p.o1, .int .i64 p.o2, .int .i64 p.o3, .int .i64 p.o4, .int .i64 p.o5, .int .i64 p.o6, .int .i64 p.o7] from rfl, ← hw1]
  clear hw1 hb hP0 P0
  go_simp
  refine wpList_allocTo rfl (some 4) rfl (.pointer (some ⟨r, 0, none⟩)) (.cells #[.int .i64 0, .int .i64 0, .int .i64 0, .int .i64 0, .int .i64 0, .int .i64 0, .int .i64 0, .string ⟨#[]⟩, .int .i64 0, .int .i64 0, .int .i64 0, .string ⟨#[]⟩, .string ⟨#[]⟩, .int .i64 0, .int .i64 0, .int .i64 0, .int .i64 0, .string ⟨#[]⟩, .int .i64 0, .int .i64 0, .int .i64 0, .int .i64 0, .string ⟨#[]⟩, .slice none 0 0, .int .i64 0, .int .i64 0, .int .i64 0, .int .i64 0, .int .i64 0, .int .i64 0, .int .i64 0, .int .i64 0, .int .i64 0, .int .i64 0, .int .i64 0, .int .i64 0, .int .i64 0, .int .i64 0, .int .i64 0, .int .i64 0, .int .i64 0, .int .i64 0, .int .i64 0] 36) (by rw [HRR.out]; kernel_rfl) ?_
  rw [← HW2.out]
  clear HW2 HRR hl1
  obtain ⟨d369, f369⟩ := HD.out.fresh
  go_upto_region 2 with (fail)
  replace HD := Lib.hid (HD.out.setFresh false)
  obtain ⟨w3, hw3⟩ : ∃ z, z = w2.setCell ⟨c, 369, none⟩ (.bool false) := ⟨_, rfl⟩
  rw [← hw3] at HD ⊢
  clear hw3 d369 f369
  have HR3 := Lib.hid (HR0.out.turnW HD.out.turn HA.out)
  have hput := w_putK (c := cc) p HP.out HK.out HR3.out
  refine wp_region_list ?_
  refine wpList_loadRow rfl 36 (.tmp 3) rfl (some 15) rfl b rfl (p.cells (.slice A k cc)) _ HD.out.pk.1 Try.underlying36 rfl pk_size ?_
  go_simp
  refine wpList_callC rfl (some 16) rfl 21 #[.agg (p.cells (.slice A k cc)).toArray] (by first | rfl | go_simp) _ hput (fun e w' h => by obtain ⟨_, _, _, h, -⟩ := h; exact ⟨_, h⟩) ?_
  rintro v w4 ⟨A4, n4, c4, he, ho, G4⟩
  obtain rfl : v = .tuple #[.slice A4 n4 c4, .int .i64 (putE p)] := by injection he
  have HD4 := Lib.hid (HD.out.keep G4)
  clear he ho hput G4 HR3 HD
  go_simp
  obtain ⟨pe, hpe⟩ : ∃ z, z = putE p := ⟨_, rfl⟩
  rw [← hpe]
  have HPE := Lib.hid hpe
  clear hpe
  go_upto_region 3 with (fail)
  have x0 := HD4.out.pk.1.2 0 _ rfl
  by_cases h0 : pe = 0
  rotate_left
  · have z0 : (pe != 0) = true := bne_iff_ne.2 h0
    have z1 : ¬ pe = 0 := h0
    have HN := Lib.hid (show ∀ s : CS, doP s p = ({}, false, s.stale) from fun s => by unfold doP; rw [if_neg (by rw [← HPE.out]; exact fun e => h0 e.1)])
    go_upto_region 4 with (fail)
    refine wp_region_list ?_
    refine wpList_buildTo rfl 36 #[] rfl (some 26) rfl zP.toArray (by kernel_rfl) ?_
    go_simp
    refine wpList_storeRow rfl 36 (.tmp 4) (.tmp 26) rfl rfl r rfl zP zP rfl HD4.out.res rfl pk_size zP_one ?_
    intro wz rz tz sz
    have HZ := Lib.hid (HD4.out.setRes rz tz)
    clear rz tz sz
    go_wp2_with fail
    refine bodyPost_ret (card_ret rfl rfl HZ.out.res.1 rfl) rfl ?_
    rw [HN.out]
    exact ⟨rfl, HZ.out.cd HOK.out.sides, HZ.out.turn⟩
  subst h0
  by_cases hkd : p.kind = 1
  rotate_left
  · have z0 : (p.kind != 1) = true := bne_iff_ne.2 hkd
    have HN := Lib.hid (show ∀ s : CS, doP s p = ({}, false, s.stale) from fun s => by unfold doP; rw [if_neg (fun e => hkd e.2)])
    go_upto_region 4 with (fail)
    refine wp_region_list ?_
    refine wpList_buildTo rfl 36 #[] rfl (some 26) rfl zP.toArray (by kernel_rfl) ?_
    go_simp
    refine wpList_storeRow rfl 36 (.tmp 4) (.tmp 26) rfl rfl r rfl zP zP rfl HD4.out.res rfl pk_size zP_one ?_
    intro wz rz tz sz
    have HZ := Lib.hid (HD4.out.setRes rz tz)
    clear rz tz sz
    go_wp2_with fail
    refine bodyPost_ret (card_ret rfl rfl HZ.out.res.1 rfl) rfl ?_
    rw [HN.out]
    exact ⟨rfl, HZ.out.cd HOK.out.sides, HZ.out.turn⟩
  have HASK := Lib.hid (askOk HPE.out.symm hkd)
  have z0 : (p.kind != 1) = false := by rw [hkd]; rfl
  have HKD := Lib.hid hkd
  have x1 := HD4.out.pk.1.2 1 _ rfl
  have hcl := HASK.out.client
  have e1 : wrap64 (p.client - 1) = p.client - 1 := IntWalk.wrap64_in _ (by omega)
  have b0 : 0 ≤ p.client - 1 := by omega
  have b1 : p.client - 1 < 8 := by omega
  have b2 : (p.client - 1).toNat < 8 := by omega
  go_upto_region 5 with (fail)
  go_quiet (fail)
  go_upto_region 6 with (fail)
  obtain ⟨q, hq⟩ : ∃ z, z = 1 + (p.client.toNat - 1) * 46 := ⟨_, rfl⟩
  rw [← hq]
  obtain ⟨w5, hwn⟩ : ∃ z, z = w4.drewN nq := ⟨_, rfl⟩
  have HD5 := Lib.hid (show DoS W w5 c b r x m L false p (.slice A k cc) zP from by rw [hwn]; exact HD4.out.keep ((Grow.refl _).drewN _))
  rw [← hwn]
  clear hwn
  have HQ := Lib.hid (show q = 46 * (p.client - 1).toNat + 1 by omega)
  have HAT := Lib.hid (show L[(p.client - 1).toNat]? = some ((CS.mk m L f).side p.client) from HOK.out.at HASK.out.client)
  obtain ⟨sd, hsd⟩ : ∃ z, z = (CS.mk m L f).side p.client := ⟨_, rfl⟩
  rw [← hsd] at HAT
  have HSD := Lib.hid hsd
  clear hq HD4 x0 x1 e1 b0 b1 b2 hcl hsd z0
  have x1 := HD5.out.pk.1.2 1 _ rfl
  have x2 := HD5.out.pk.1.2 2 _ rfl
  have x3 := HD5.out.pk.1.2 3 _ rfl
  have x4 := HD5.out.pk.1.2 4 _ rfl
  refine wp_region_list ?_
  refine wpList_runTo rfl (some 34) rfl (.pointer (some ⟨b, 1, none⟩)) w5 (by first | (go_simp; done) | rfl) ?_
  refine wpList_runTo rfl (some 35) rfl (.int .i64 p.client) w5 (by go_simp) ?_
  refine wpList_runTo rfl (some 36) rfl (.pointer (some ⟨b, 2, none⟩)) w5 (by first | (go_simp; done) | rfl) ?_
  refine wpList_runTo rfl (some 37) rfl (.int .i64 p.epoch) w5 (by go_simp) ?_
  refine wpList_runTo rfl (some 38) rfl (.pointer (some ⟨b, 3, none⟩)) w5 (by first | (go_simp; done) | rfl) ?_
  refine wpList_runTo rfl (some 39) rfl (.int .i64 p.seq) w5 (by go_simp) ?_
  refine wpList_runTo rfl (some 40) rfl (.pointer (some ⟨b, 4, none⟩)) w5 (by first | (go_simp; done) | rfl) ?_
  refine wpList_runTo rfl (some 41) rfl (.int .i64 p.op) w5 (by go_simp) ?_
  refine wpList_buildTo rfl 36 _ rfl (some 42) rfl ((askP p).cells (.slice none 0 0)).toArray (by kernel_rfl) ?_
  have hg0 := Row.new w5 36 zP #[.int .i64 0, .int .i64 0, .int .i64 0, .int .i64 0, .int .i64 0, .int .i64 0, .int .i64 0, .string ⟨#[]⟩, .int .i64 0, .int .i64 0, .int .i64 0, .string ⟨#[]⟩, .string ⟨#[]⟩, .int .i64 0, .int .i64 0, .int .i64 0, .int .i64 0, .string ⟨#[]⟩, .int .i64 0, .int .i64 0, .int .i64 0, .int .i64 0, .string ⟨#[]⟩, .slice none 0 0, .int .i64 0, .int .i64 0, .int .i64 0, .int .i64 0, .int .i64 0, .int .i64 0, .int .i64 0, .int .i64 0, .int .i64 0, .int .i64 0, .int .i64 0, .int .i64 0, .int .i64 0, .int .i64 0, .int .i64 0, .int .i64 0, .int .i64 0, .int .i64 0, .int .i64 0] rfl
  have ga := (Grow.refl w5).alloc (.cells #[.int .i64 0, .int .i64 0, .int .i64 0, .int .i64 0, .int .i64 0, .int .i64 0, .int .i64 0, .string ⟨#[]⟩, .int .i64 0, .int .i64 0, .int .i64 0, .string ⟨#[]⟩, .string ⟨#[]⟩, .int .i64 0, .int .i64 0, .int .i64 0, .int .i64 0, .string ⟨#[]⟩, .int .i64 0, .int .i64 0, .int .i64 0, .int .i64 0, .string ⟨#[]⟩, .slice none 0 0, .int .i64 0, .int .i64 0, .int .i64 0, .int .i64 0, .int .i64 0, .int .i64 0, .int .i64 0, .int .i64 0, .int .i64 0, .int .i64 0, .int .i64 0, .int .i64 0, .int .i64 0, .int .i64 0, .int .i64 0, .int .i64 0, .int .i64 0, .int .i64 0, .int .i64 0] 36)
  refine wpList_allocTo rfl (some 9) rfl (.pointer (some ⟨w5.heap.size, 0, none⟩)) (.cells #[.int .i64 0, .int .i64 0, .int .i64 0, .int .i64 0, .int .i64 0, .int .i64 0, .int .i64 0, .string ⟨#[]⟩, .int .i64 0, .int .i64 0, .int .i64 0, .string ⟨#[]⟩, .string ⟨#[]⟩, .int .i64 0, .int .i64 0, .int .i64 0, .int .i64 0, .string ⟨#[]⟩, .int .i64 0, .int .i64 0, .int .i64 0, .int .i64 0, .string ⟨#[]⟩, .slice none 0 0, .int .i64 0, .int .i64 0, .int .i64 0, .int .i64 0, .int .i64 0, .int .i64 0, .int .i64 0, .int .i64 0, .int .i64 0, .int .i64 0, .int .i64 0, .int .i64 0, .int .i64 0, .int .i64 0, .int .i64 0, .int .i64 0, .int .i64 0, .int .i64 0, .int .i64 0] 36) (by kernel_rfl) ?_
  obtain ⟨w6, hw6⟩ : ∃ z, z = w5.alloc (.cells #[.int .i64 0, .int .i64 0, .int .i64 0, .int .i64 0, .int .i64 0, .int .i64 0, .int .i64 0, .string ⟨#[]⟩, .int .i64 0, .int .i64 0, .int .i64 0, .string ⟨#[]⟩, .string ⟨#[]⟩, .int .i64 0, .int .i64 0, .int .i64 0, .int .i64 0, .string ⟨#[]⟩, .int .i64 0, .int .i64 0, .int .i64 0, .int .i64 0, .string ⟨#[]⟩, .slice none 0 0, .int .i64 0, .int .i64 0, .int .i64 0, .int .i64 0, .int .i64 0, .int .i64 0, .int .i64 0, .int .i64 0, .int .i64 0, .int .i64 0, .int .i64 0, .int .i64 0, .int .i64 0, .int .i64 0, .int .i64 0, .int .i64 0, .int .i64 0, .int .i64 0, .int .i64 0] 36) := ⟨_, rfl⟩
  obtain ⟨g, hg⟩ : ∃ z, z = w5.heap.size := ⟨_, rfl⟩
  rw [← hw6] at hg0 ga ⊢
  rw [← hg] at hg0 ⊢
  have hgF : ¬ x.F g := fun e => by have := HD5.out.mem.lt _ e; omega
  have hgc : ¬ g = c := by have := HD5.out.card.1.1; omega
  have hgb : ¬ g = b := by have := HD5.out.pk.1.1; omega
  have hgr : ¬ g = r := by have := HD5.out.res.1.1; omega
  have hgW : W.heap.size ≤ g := by have := HD5.out.turn.size; omega
  have HGA := Lib.hid ga
  have HG0 := Lib.hid hg0
  clear hw6 hg ga hg0 x1 x2 x3 x4
  go_simp
  refine wpList_storeRow rfl 36 (.tmp 9) (.tmp 42) rfl rfl g (by first | (go_simp; done) | rfl) ((askP p).cells (.slice none 0 0)) zP (by first | (go_simp; done) | rfl) HG0.out rfl pk_size (PK.one _ rfl) ?_
  intro w7 r7 t7 z7
  have HG7 := Lib.hid r7
  have HD7 := Lib.hid ((HD5.out.keep HGA.out).other t7 hgF hgc hgb hgr hgW)
  clear r7 t7 z7 HG0 HGA HD5
  have x2 := HD7.out.pk.1.2 2 _ rfl
  have s0 := (HD7.out.side HAT.out HQ.out).1
  go_upto_region 7 with (fail)
  by_cases hep : p.epoch = sd.ep
  rotate_left
  · have z0 : (p.epoch != sd.ep) = true := bne_iff_ne.2 hep
    have HN := Lib.hid (show doP ⟨m, L, f⟩ p = (ansP p 31 ⟨#[]⟩ 0, true, (CS.mk m L f).stale) by unfold doP; rw [if_pos ⟨HPE.out.symm, HKD.out⟩, if_neg (by rw [← HSD.out]; exact hep)])
    clear hep
    go_quiet (fail)
    go_upto_region 8 with (fail)
    obtain ⟨w8, hwn⟩ : ∃ z, z = w7.drewN nq := ⟨_, rfl⟩
    have HD8 := Lib.hid (show DoS W w8 c b r x m L false p (.slice A k cc) zP from by rw [hwn]; exact HD7.out.keep ((Grow.refl _).drewN _))
    have HG8 := Lib.hid (show Row w8 g ((askP p).cells (.slice none 0 0)) from by rw [hwn]; exact HG7.out.keep ((Grow.refl _).drewN _))
    rw [← hwn]
    clear hwn
    clear HD7 HG7 x2 s0 z0
    obtain ⟨d19, f19⟩ := errno_at HG8.out
    go_upto_region 9 with (fail)
    have t : Turn (fun k => k = g) w8 (w8.setCell ⟨g, 19, none⟩ (.int .i64 31)) := Turn.setCell (F := fun k => k = g) w8 (p := ⟨g, 19, none⟩) rfl _
    have HD9 := Lib.hid (HD8.out.other t hgF hgc hgb hgr hgW)
    have HG9 := Lib.hid (show Row (w8.setCell ⟨g, 19, none⟩ (.int .i64 31)) g ((ansP p 31 ⟨#[]⟩ 0).cells (.slice none 0 0)) from HG8.out.set (j := 19) (show 19 < 43 by decide))
    obtain ⟨w9, hw9⟩ : ∃ z, z = w8.setCell ⟨g, 19, none⟩ (.int .i64 31) := ⟨_, rfl⟩
    rw [← hw9] at HD9 HG9 ⊢
    clear hw9 t d19 f19 HD8 HG8
    refine wp_region_list ?_
    refine wpList_loadRow rfl 36 (.tmp 9) rfl (some 52) rfl g (by first | (go_simp; done) | rfl) ((ansP p 31 ⟨#[]⟩ 0).cells (.slice none 0 0)) _ HG9.out.1 Try.underlying36 rfl pk_size ?_
    go_simp
    refine wpList_storeRow rfl 36 (.tmp 4) (.tmp 52) rfl rfl r (by first | (go_simp; done) | rfl) ((ansP p 31 ⟨#[]⟩ 0).cells (.slice none 0 0)) zP (by first | (go_simp; done) | rfl) HD9.out.res rfl pk_size (PK.one _ rfl) ?_
    intro wz rz tz sz
    have HZ := Lib.hid (HD9.out.setRes rz tz)
    clear rz tz sz
    go_wp2_with fail
    refine bodyPost_ret (card_ret rfl rfl HZ.out.res.1 rfl) rfl ?_
    rw [HN.out]
    exact ⟨rfl, HZ.out.cd HOK.out.sides, HZ.out.turn⟩
  have z0 : (p.epoch != sd.ep) = false := by rw [hep]; exact bne_self_eq_false _
  have HEP := Lib.hid hep
  clear hep
  go_quiet (fail)
  go_upto_region 10 with (fail)
  obtain ⟨w8, hwn⟩ : ∃ z, z = w7.drewN nq := ⟨_, rfl⟩
  have HD8 := Lib.hid (show DoS W w8 c b r x m L false p (.slice A k cc) zP from by rw [hwn]; exact HD7.out.keep ((Grow.refl _).drewN _))
  have HG8 := Lib.hid (show Row w8 g ((askP p).cells (.slice none 0 0)) from by rw [hwn]; exact HG7.out.keep ((Grow.refl _).drewN _))
  rw [← hwn]
  clear hwn
  clear HD7 HG7 x2 s0 z0
  have x3 := HD8.out.pk.1.2 3 _ rfl
  have s1 := (HD8.out.side HAT.out HQ.out).2.1
  by_cases hsq : p.seq = sd.la
  · have z0 : (p.seq == sd.la) = true := beq_iff_eq.2 hsq
    have HN := Lib.hid (show doP ⟨m, L, f⟩ p = (sd.told, sd.had, (CS.mk m L f).stale) by unfold doP; rw [← HSD.out, if_pos ⟨HPE.out.symm, HKD.out⟩, if_pos HEP.out, if_pos hsq])
    clear hsq
    go_quiet (fail)
    go_upto_region 11 with (fail)
    obtain ⟨w9, hwn⟩ : ∃ z, z = w8.drewN nq := ⟨_, rfl⟩
    have HD9 := Lib.hid (show DoS W w9 c b r x m L false p (.slice A k cc) zP from by rw [hwn]; exact HD8.out.keep ((Grow.refl _).drewN _))
    rw [← hwn]
    clear hwn
    clear HD8 HG8 x3 s1 z0
    obtain ⟨-, -, sr, sh⟩ := HD9.out.side HAT.out HQ.out
    have hsS := And.intro sh sr
    refine wp_region_held_drew (S := fun w' => w'.cell? ⟨c, q + 45, none⟩ = some (.bool sd.had) ∧ w'.rangeAt c (q + 2) (sd.told.cells (.slice none 0 0))) (by kernel_rfl) ?_ (fun hHeld => ?_)
    · exact hsS
    clear sr sh hsS
    refine wpAnyH_take (i := 0) (oi := _) (v := ?_) rfl (by kernel_rfl) (by kernel_rfl) (by kernel_rfl) (fun _ _ _ h => h) (Or.inl ⟨by rfl, ?_⟩) (by assumption) ?_
    rotate_left
    · (intro w hSw; (try dsimp only at hSw); go_simp; (try with_reducible rfl))
    simp only [Act.put, List.getElem_toArray, List.getElem_cons_zero, List.setIfInBounds_toArray, List.set_cons_zero, List.set_cons_succ]
    refine wpAnyH_take (i := 1) (oi := _) (v := ?_) rfl (by kernel_rfl) (by kernel_rfl) (by kernel_rfl) (fun _ _ _ h => h) (Or.inl ⟨by rfl, ?_⟩) (by assumption) ?_
    rotate_left
    · (intro w hSw; (try dsimp only at hSw); go_simp; (try with_reducible rfl))
    simp only [Act.put, List.getElem_toArray, List.getElem_cons_succ, List.getElem_cons_zero, List.setIfInBounds_toArray, List.set_cons_zero, List.set_cons_succ]
    refine wpAnyH_take (i := 2) (oi := _) (v := ?_) rfl (by kernel_rfl) (by kernel_rfl) (by kernel_rfl) (fun _ _ _ h => h) (Or.inl ⟨by rfl, ?_⟩) (by assumption) ?_
    rotate_left
    · (intro w hSw; (try dsimp only at hSw); go_simp; (try with_reducible rfl))
    simp only [Act.put, List.getElem_toArray, List.getElem_cons_succ, List.getElem_cons_zero, List.setIfInBounds_toArray, List.set_cons_zero, List.set_cons_succ]
    refine wpAnyH_take (i := 3) (oi := _) (v := .agg (sd.told.cells (.slice none 0 0)).toArray) rfl (by kernel_rfl) (by kernel_rfl) (by kernel_rfl) (fun _ _ _ h => h) (yieldsIf_load_mid (by rfl) 36 (.tmp 63) rfl c (q + 2) (by first | (go_simp; done) | rfl) (sd.told.cells (.slice none 0 0)) _ (fun w hS => hS.2) Try.underlying36 rfl pk_size) (by assumption) ?_
    simp only [Act.put, List.getElem_toArray, List.getElem_cons_succ, List.getElem_cons_zero, List.setIfInBounds_toArray, List.set_cons_zero, List.set_cons_succ]
    refine wpAnyH_take (i := 4) (oi := _) (v := ?_) rfl (by kernel_rfl) (by kernel_rfl) (by kernel_rfl) (fun _ _ _ h => h) (Or.inl ⟨by rfl, ?_⟩) (by assumption) ?_
    rotate_left
    · (intro w hSw; (try dsimp only at hSw); go_simp; (try with_reducible rfl))
    simp only [Act.put, List.getElem_toArray, List.getElem_cons_succ, List.getElem_cons_zero, List.setIfInBounds_toArray, List.set_cons_zero, List.set_cons_succ]
    refine wpAnyH_take (i := 5) (oi := _) (v := ?_) rfl (by kernel_rfl) (by kernel_rfl) (by kernel_rfl) (fun _ _ _ h => h) (Or.inl ⟨by rfl, ?_⟩) (by assumption) ?_
    rotate_left
    · (intro w hSw; (try dsimp only at hSw); go_simp; (try with_reducible rfl))
    simp only [Act.put, List.getElem_toArray, List.getElem_cons_succ, List.getElem_cons_zero, List.setIfInBounds_toArray, List.set_cons_zero, List.set_cons_succ]
    refine wpAnyH_take (i := 6) (oi := _) (v := ?_) rfl (by kernel_rfl) (by kernel_rfl) (by kernel_rfl) (fun _ _ _ h => h) (Or.inl ⟨by rfl, ?_⟩) (by assumption) ?_
    rotate_left
    · (intro w hSw; (try dsimp only at hSw); go_simp; (try with_reducible rfl))
    simp only [Act.put, List.getElem_toArray, List.getElem_cons_succ, List.getElem_cons_zero, List.setIfInBounds_toArray, List.set_cons_zero, List.set_cons_succ]
    refine wpAnyH_take (i := 7) (oi := _) (v := .bool sd.had) rfl (by kernel_rfl) (by kernel_rfl) (by kernel_rfl) (fun _ _ _ h => h) (Or.inl ⟨by rfl, ?_⟩) (by assumption) ?_
    · (intro w hSw; have hSw1 := hSw.1; clear hSw; go_simp; (try with_reducible rfl))
    simp only [Act.put, List.getElem_toArray, List.getElem_cons_succ, List.getElem_cons_zero, List.setIfInBounds_toArray, List.set_cons_zero, List.set_cons_succ]
    refine wpAnyH_ready (rs := [8]) (by kernel_rfl) (by simp) ?_
    refine AllReadyH.cons (o := { dst := none, op := .store 36 (.tmp 4) (.tmp 64), type := 0, pos := _, after := #[{ on := 3, ground := .data }, { on := 0, ground := .phase }, { on := 1, ground := .phase }, { on := 2, ground := .phase }, { on := 3, ground := .phase }, { on := 4, ground := .textOnly .lateStores }, { on := 5, ground := .textOnly .lateStores }, { on := 6, ground := .textOnly .lateStores }, { on := 7, ground := .textOnly .lateStores }], guard := none }) rfl (fun K hK => ?_) AllReadyH.nil
    rw [if_pos (by rfl)]
    have HDd := Lib.hid (HD9.out.keep ((Grow.refl w9).drew))
    refine wp_store_mid _ _ _ rfl r 0 (sd.told.cells (.slice none 0 0)).toArray rfl rfl (HDd.out.res.there (by rw [List.size_toArray]; exact Nat.le_refl 43)) pk_size (all_oneCell_toArray fun v hv => List.all_eq_true.1 (PK.one sd.told rfl) v hv) ?_
    have HZ := Lib.hid (HDd.out.setRes (HDd.out.res.setCells (vs := sd.told.cells (.slice none 0 0)) rfl) (setCells_turn r (sd.told.cells (.slice none 0 0)) 0 w9.drew))
    have sz := HZ.out.side HAT.out HQ.out
    refine hK.out _ _ (And.intro sz.2.2.2 sz.2.2.1) (fun hHeld2 => ?_)
    clear hK K sz HDd hHeld
    refine wpAnyH_take (i := 9) (oi := _) (v := ?_) rfl (by kernel_rfl) (by kernel_rfl) (by kernel_rfl) (fun _ _ _ h => h) (Or.inl ⟨by rfl, ?_⟩) (by assumption) ?_
    rotate_left
    · (intro w hSw; (try dsimp only at hSw); go_simp; (try with_reducible rfl))
    simp only [Act.put, List.getElem_toArray, List.getElem_cons_succ, List.getElem_cons_zero, List.setIfInBounds_toArray, List.set_cons_zero, List.set_cons_succ]
    refine wpAnyH_done (by kernel_rfl) ?_ _
    go_wp2_with fail
    --CUT0
    refine bodyPost_ret (card_ret rfl rfl HZ.out.res.1 rfl) rfl ?_
    rw [HN.out]
    exact ⟨rfl, HZ.out.cd HOK.out.sides, HZ.out.turn⟩
  have z0 : (p.seq == sd.la) = false := beq_eq_false_iff_ne.2 hsq
  have HSQ := Lib.hid hsq
  clear hsq
  go_quiet (fail)
  go_upto_region 12 with (fail)
  obtain ⟨w9, hwn⟩ : ∃ z, z = w8.drewN nq := ⟨_, rfl⟩
  have HD9 := Lib.hid (show DoS W w9 c b r x m L false p (.slice A k cc) zP from by rw [hwn]; exact HD8.out.keep ((Grow.refl _).drewN _))
  have HG9 := Lib.hid (show Row w9 g ((askP p).cells (.slice none 0 0)) from by rw [hwn]; exact HG8.out.keep ((Grow.refl _).drewN _))
  rw [← hwn]
  clear hwn
  clear HD8 HG8 x3 s1 z0
  have x3 := HD9.out.pk.1.2 3 _ rfl
  have s1 := (HD9.out.side HAT.out HQ.out).2.1
  by_cases hnx : p.seq = wrap64 (sd.la + 1)
  rotate_left
  · have z0 : (p.seq != wrap64 (sd.la + 1)) = true := bne_iff_ne.2 hnx
    have HN := Lib.hid (show doP ⟨m, L, f⟩ p = ({}, false, (CS.mk m L f).stale) by unfold doP; rw [← HSD.out, if_pos ⟨HPE.out.symm, HKD.out⟩, if_pos HEP.out, if_neg HSQ.out, if_neg hnx])
    clear hnx
    go_quiet (fail)
    go_upto_region 13 with (fail)
    obtain ⟨w10, hwn⟩ : ∃ z, z = w9.drewN nq := ⟨_, rfl⟩
    have HD10 := Lib.hid (show DoS W w10 c b r x m L false p (.slice A k cc) zP from by rw [hwn]; exact HD9.out.keep ((Grow.refl _).drewN _))
    rw [← hwn]
    clear hwn
    refine wp_region_list ?_
    refine wpList_buildTo rfl 36 #[] rfl (some 78) rfl zP.toArray (by kernel_rfl) ?_
    go_simp
    refine wpList_storeRow rfl 36 (.tmp 4) (.tmp 78) rfl rfl r rfl zP zP rfl HD10.out.res rfl pk_size zP_one ?_
    intro wz rz tz sz
    have HZ := Lib.hid (HD10.out.setRes rz tz)
    clear rz tz sz
    go_wp2_with fail
    refine bodyPost_ret (card_ret rfl rfl HZ.out.res.1 rfl) rfl ?_
    rw [HN.out]
    exact ⟨rfl, HZ.out.cd HOK.out.sides, HZ.out.turn⟩
  have z0 : (p.seq != wrap64 (sd.la + 1)) = false := by rw [hnx]; exact bne_self_eq_false _
  have HN := Lib.hid (show doP ⟨m, L, f⟩ p = doneP ⟨m, L, f⟩ p by unfold doP; rw [← HSD.out, if_pos ⟨HPE.out.symm, HKD.out⟩, if_pos HEP.out, if_neg HSQ.out, if_pos hnx])
  clear hnx
  go_quiet (fail)
  go_upto_region 14 with (fail)
  obtain ⟨w10, hwn⟩ : ∃ z, z = w9.drewN nq := ⟨_, rfl⟩
  have HD10 := Lib.hid (show DoS W w10 c b r x m L false p (.slice A k cc) zP from by rw [hwn]; exact HD9.out.keep ((Grow.refl _).drewN _))
  have HG10 := Lib.hid (show Row w10 g ((askP p).cells (.slice none 0 0)) from by rw [hwn]; exact HG9.out.keep ((Grow.refl _).drewN _))
  rw [← hwn]
  clear hwn
  clear HD9 HG9 x3 s1 z0 HSQ HEP
  have x4 := HD10.out.pk.1.2 4 _ rfl
  obtain ⟨op, hop⟩ : ∃ z, z = p.op := ⟨_, rfl⟩
  rw [← hop] at x4
  have HOPB := Lib.hid (show 1 ≤ op ∧ op ≤ 4 by rw [hop]; exact HASK.out.op)
  have HOP := Lib.hid hop
  clear hop
  --CUT1
  go_upto_region 15 with (fail)
  go_upto_block 1 with (fail)
  go_cut [10] (fun v wx => v = .func (.func (vbM op)) #[.pointer (some ⟨c, 0, none⟩)] #[] ∧ w10 = wx)
  case first =>
    have hob := HOPB.out
    by_cases k2 : op = 2
    · subst k2
      go_wp2_with fail
      go_meet
      exact ⟨rfl, rfl⟩
    by_cases k3 : op = 3
    · subst k3
      go_wp2_with fail
      go_meet
      exact ⟨rfl, rfl⟩
    by_cases k4 : op = 4
    · subst k4
      go_wp2_with fail
      go_meet
      exact ⟨rfl, rfl⟩
    obtain rfl : op = 1 := by omega
    go_wp2_with fail
    go_meet
    exact ⟨rfl, rfl⟩
  case rest =>
    obtain ⟨rfl, rfl⟩ := hcut
    rw [HOP.out]
    clear x4
    have hK : ∀ args w, (callFunc (vbM p.op) args).run Try.prog w = .ok (.enter (vbM p.op) args) w := vbM_enter p.op
    have hcall := verb_v (nv := .slice A k cc) HD10.out.mem HD10.out.ptr HD10.out.cF HASK.out HP.out HG10.out hgF (fun e => hgc e.symm)
    --CUT2
    go_upto_region 22 with (fail)
    refine wp_region_list ?_
    refine wpList_runTo rfl (some 95) rfl (.func (.func (vbM p.op)) #[.pointer (some ⟨c, 0, none⟩)] #[]) w10 (by first | (go_simp; done) | rfl) ?_
    refine wpList_loadRow rfl 36 (.tmp 3) rfl (some 96) rfl b (by first | (go_simp; done) | rfl) (p.cells (.slice A k cc)) _ HD10.out.pk.1 Try.underlying36 rfl pk_size ?_
    refine wpList_callC rfl (some 97) rfl (vbM p.op) #[.pointer (some ⟨c, 0, none⟩), .agg (p.cells (.slice A k cc)).toArray, .pointer (some ⟨g, 0, none⟩)] (by go_simp) _ hcall (fun e w' h => ⟨_, h.1⟩) ?_
    rintro v w11 ⟨he, h11⟩
    obtain rfl : v = .tuple #[] := by injection he
    have HD11 := Lib.hid (HD10.out.verb h11 hgc hgb hgr hgW)
    have HG11 := Lib.hid h11.2.1
    clear he h11 hcall hK HD10 HG10
    have HE := Lib.hid (show doneP ⟨m, L, f⟩ p = ((verbV m p).1, true, ⟨(verbV m p).2, L.set (p.client - 1).toNat ⟨sd.ep, p.seq, (verbV m p).1, true⟩, decide ((verbV m p).1.errno = 0)⟩) by unfold doneP; rw [← HSD.out]; rfl)
    have HSO := Lib.hid (show ∀ y ∈ L.set (p.client - 1).toNat ⟨sd.ep, p.seq, (verbV m p).1, true⟩, y.ok by have := (doP_ok HOK.out HP.out).2.2; rw [HN.out, HE.out] at this; exact this.sides)
    rw [← HN.out] at HE
    obtain ⟨an, han⟩ : ∃ z, z = (verbV m p).1 := ⟨_, rfl⟩
    obtain ⟨mn, hmn⟩ : ∃ z, z = (verbV m p).2 := ⟨_, rfl⟩
    rw [← han] at HE HSO HG11
    rw [← hmn] at HE HD11
    clear han hmn HN
    go_upto_region 23 with (fail)
    have x3 := HD11.out.pk.1.2 3 _ rfl
    have s1 := (HD11.out.side HAT.out HQ.out).2.1
    obtain ⟨w12, h12⟩ : ∃ z, z = w11.setCell ⟨c, q + 1, none⟩ (.int .i64 p.seq) := ⟨_, rfl⟩
    obtain ⟨w13, h13⟩ : ∃ z, z = w12.setCells c (q + 2) (an.cells (.slice none 0 0)) := ⟨_, rfl⟩
    obtain ⟨w14, h14⟩ : ∃ z, z = w13.setCell ⟨c, q + 45, none⟩ (.bool true) := ⟨_, rfl⟩
    obtain ⟨fq1, th, cq, fq, hd14⟩ := HD11.out.setSide HAT.out HQ.out h12 h13 h14
    have HD14 := Lib.hid hd14
    have HG14 := Lib.hid (show Row w14 g (an.cells (.slice none 0 0)) from by
      have t : Turn (fun k => k = c) w11 w14 := by
        rw [h14, h13, h12]
        exact ((Turn.setCell (F := fun k => k = c) w11 (p := ⟨c, q + 1, none⟩) rfl _).and (setCells_turn c _ _ _)).and (Turn.setCell (F := fun k => k = c) _ (p := ⟨c, q + 45, none⟩) rfl _)
      exact HG11.out.turnW t hgc)
    have H12 := Lib.hid h12
    have H13 := Lib.hid h13
    have H14 := Lib.hid h14
    have TH := Lib.hid th
    clear h12 h13 h14 hd14 th
    refine wp_region_list ?_
    refine wpList_runTo rfl (some 98) rfl (.pointer (some ⟨c, q, none⟩)) w11 (by first | (go_simp; done) | rfl) ?_
    refine wpList_runTo rfl (some 99) rfl (.pointer (some ⟨c, q, none⟩)) w11 (by first | (go_simp; done) | rfl) ?_
    refine wpList_runTo rfl (some 100) rfl (.pointer (some ⟨c, q, none⟩)) w11 (by first | (go_simp; done) | rfl) ?_
    refine wpList_runTo rfl (some 101) rfl (.pointer (some ⟨b, 3, none⟩)) w11 (by first | (go_simp; done) | rfl) ?_
    refine wpList_runTo rfl (some 102) rfl (.int .i64 p.seq) w11 (by go_simp) ?_
    refine wpList_loadRow rfl 36 (.tmp 9) rfl (some 103) rfl g (by first | (go_simp; done) | rfl) (an.cells (.slice none 0 0)) _ HG11.out.1 Try.underlying36 rfl pk_size ?_
    refine wpList_runTo rfl (some 104) rfl (.pointer (some ⟨c, q, none⟩)) w11 (by first | (go_simp; done) | rfl) ?_
    refine wpList_runTo rfl (some 105) rfl (.pointer (some ⟨c, q + 1, none⟩)) w11 (by first | (go_simp; done) | rfl) ?_
    refine wpList_storeTo rfl rfl w12 (by rw [H12.out]; go_simp) ?_
    refine wpList_runTo rfl (some 106) rfl (.pointer (some ⟨c, q, none⟩)) w12 (by first | (go_simp; done) | rfl) ?_
    refine wpList_runTo rfl (some 107) rfl (.pointer (some ⟨c, q + 2, none⟩)) w12 (by first | (go_simp; done) | rfl) ?_
    refine wpList_store_mid rfl 36 (.tmp 107) (.tmp 103) rfl c (q + 2) (an.cells (.slice none 0 0)).toArray (by first | (go_simp; done) | rfl) (by first | (go_simp; done) | rfl) (by rw [List.size_toArray]; exact TH.out) pk_size (all_oneCell_toArray fun v hv => List.all_eq_true.1 (PK.one an rfl) v hv) ?_
    rw [show w12.setCells c (q + 2) (an.cells (.slice none 0 0)).toArray.toList = w13 from H13.out.symm]
    refine wpList_runTo rfl (some 108) rfl (.pointer (some ⟨c, q, none⟩)) w13 (by first | (go_simp; done) | rfl) ?_
    refine wpList_runTo rfl (some 109) rfl (.pointer (some ⟨c, q + 45, none⟩)) w13 (by first | (go_simp; done) | rfl) ?_
    refine wpList_storeTo rfl rfl w14 (by rw [H14.out]; go_simp) ?_
    clear fq1 cq fq s1 x3 H12 H13 H14 TH HD11 HG11
    obtain ⟨d369, f369⟩ := HD14.out.fresh
    have d19 := (errno_at HG14.out).1
    --CUT4
    go_upto_region 25 with (fail)
    obtain ⟨w15, h15⟩ : ∃ z, z = w14.setCell ⟨c, 369, none⟩ (.bool (an.errno == 0)) := ⟨_, rfl⟩
    have HD15 := Lib.hid (show DoS W w15 c b r x mn (L.set (p.client - 1).toNat ⟨sd.ep, p.seq, an, true⟩) (decide (an.errno = 0)) p (.slice A k cc) zP from by rw [h15]; exact HD14.out.setFresh _)
    have HG15 := Lib.hid (show Row w15 g (an.cells (.slice none 0 0)) from by rw [h15]; exact HG14.out.turnW (Turn.setCell (F := fun k => k = c) w14 (p := ⟨c, 369, none⟩) rfl _) hgc)
    rw [← h15]
    clear h15 d369 f369 d19 HD14 HG14
    --CUT5
    refine wp_region_list ?_
    refine wpList_loadRow rfl 36 (.tmp 9) rfl (some 116) rfl g (by first | (go_simp; done) | rfl) (an.cells (.slice none 0 0)) _ HG15.out.1 Try.underlying36 rfl pk_size ?_
    go_simp
    refine wpList_storeRow rfl 36 (.tmp 4) (.tmp 116) rfl rfl r (by first | (go_simp; done) | rfl) (an.cells (.slice none 0 0)) zP (by first | (go_simp; done) | rfl) HD15.out.res rfl pk_size (PK.one _ rfl) ?_
    intro wz rz tz sz
    have HZ := Lib.hid (HD15.out.setRes rz tz)
    clear rz tz sz
    go_wp2_with fail
    refine bodyPost_ret (card_ret rfl rfl HZ.out.res.1 rfl) rfl ?_
    rw [HE.out]
    exact ⟨rfl, HZ.out.cd HSO.out, HZ.out.turn⟩
end Go.Proofs.Ytdlcpfgogjcciaa
