/- The reader's methods. The writer's method for an answer to a question. The reader's method for an answer to a question. No statement of the seat is proved here. -/
import Derived.Test.YtdlcpfgogjcciaaZ08
import Derived.Deep.RegionHeld3
namespace Go.Proofs.Ytdlcpfgogjcciaa
open Go.RowKit

theorem DS.turn {w w' : World} {F : Nat → Prop} {g B : Nat} {bv : Value} {o : OBs} (h : DS w g B bv o) (t : Turn F w w') (hg : ¬ F g) (hB : ∀ k, F k → B ≤ k) : DS w' g B bv o := by
  obtain ⟨h1, h0, A, n, c, bs, rfl, h3, h4, h5, h6⟩ := h
  exact ⟨h1.turnW t hg, h0, A, n, c, bs, rfl, h3.turnW t (fun h p hp k => by have := h5 h p hp; have := hB _ k; omega), h4, h5, h6⟩
/-- A cell of the packet at x is laid. -/
theorem DS.put {w : World} {g B x : Nat} {bv : Value} {o : OBs} {vs : List Value} (h : DS w g B bv o) (hx : Row w x vs) (hxg : ¬ x = g) (hB : B ≤ x) (j : Nat) (v : Value) (hj : j < vs.length) :
    DS (w.setCell ⟨x, j, none⟩ v) g B bv o ∧ Row (w.setCell ⟨x, j, none⟩ v) x (vs.set j v) ∧ Turn (fun k => k = x) w (w.setCell ⟨x, j, none⟩ v) := by
  have t : Turn (fun k => k = x) w (w.setCell ⟨x, j, none⟩ v) := Turn.setCell (F := fun k => k = x) w (p := ⟨x, j, none⟩) rfl _
  exact ⟨h.turn t (fun e => hxg e.symm) (fun k e => by have e' : k = x := e; omega), hx.set hj, t⟩
theorem DS.flag {w : World} {g B : Nat} {bv : Value} {o : OBs} (h : DS w g B bv o) (b v : Bool) (hv : v = (gd b o).isNone) : DS (w.setCell ⟨g, 1, none⟩ (.bool v)) g B bv (gd b o) ∧ Turn (fun k => k = g) w (w.setCell ⟨g, 1, none⟩ (.bool v)) := by
  obtain ⟨h1, h0, A, n, c, bs, rfl, h3, h4, h5, h6⟩ := h
  have t5 : Turn (fun k => k = g) w (w.setCell ⟨g, 1, none⟩ (.bool v)) := Turn.setCell (F := fun k => k = g) w (p := ⟨g, 1, none⟩) rfl _
  refine ⟨⟨?_, h0, A, n, c, bs, rfl, h3.turnW t5 (fun h p hp e => by have := h5 h p hp; have e' : p.block = g := e; omega), h4, h5, fun l hl => h6 l (gd_some hl).2⟩, t5⟩
  rw [hv]
  exact h1.set (j := 1) (v := .bool (gd b o).isNone) (by simp)
/-- What a method of the reader leaves. -/
def MDone (w w' : World) (g x B : Nat) (z : PK × OBs) (nv : Value) : Prop := ∃ bv, DS w' g B bv z.2 ∧ Row w' x (z.1.cells nv) ∧ Turn (fun k => k = g ∨ k = x) w w'

set_option maxHeartbeats 8000000 in
set_option maxRecDepth 8000 in
theorem rd_recall {w : World} {g x B : Nat} {bv : Value} {o : OBs} (h : DS w g B bv o) (q : PK) (nv : Value) (hx : Row w x (q.cells nv)) (hxg : ¬ x = g) (hB : B ≤ x) :
    Calls Try.prog 76 #[.pointer (some ⟨g, 0, none⟩), .pointer (some ⟨x, 0, none⟩)] w fun e w' => e = .returned (.tuple #[]) ∧ MDone w w' g x B (rRecall q o) nv := by
  have HD0 := Lib.hid h
  have HX0 := Lib.hid hx
  have HT0 := Lib.hid (Turn.refl (fun k => k = g ∨ k = x) w)
  have hlg := h.blk.1.1
  have hlx := hx.1.1
  obtain ⟨s0, hs0⟩ : ∃ s, s = o := ⟨_, rfl⟩
  rw [← hs0] at HD0
  have HS0 := Lib.hid hs0
  clear h hx hs0
  go_enter Try.func76, Try.ntmps76
  go_wp2_with fail
  refine (rd_number HD0.out 1 (by decide) 1 rfl).mono ?_
  rintro e v1 ⟨rfl, bv1, h2, t2⟩
  obtain ⟨e1, he⟩ : ∃ z, z = rN s0 1 := ⟨_, rfl⟩
  obtain ⟨s1, hs⟩ : ∃ z, z = rNr s0 1 := ⟨_, rfl⟩
  rw [← he]
  rw [← hs] at h2
  have HE1 := Lib.hid he
  have HS1 := Lib.hid hs
  have hxr := HX0.out.turnW t2 hxg
  have c18 := hxr.1.2 18 _ rfl
  have f18 := hxr.2 18 (by simp [PK.cells])
  have k18 := hxr.1.1
  have P := h2.put hxr hxg hB 18 (.int .i64 e1) (by simp [PK.cells])
  have HD1 := Lib.hid P.1
  have HX1 := Lib.hid (show Row (v1.setCell ⟨x, 18, none⟩ (.int .i64 e1)) x (({ q with ino := e1 } : PK).cells nv) from P.2.1)
  have HT1 := Lib.hid ((HT0.out.and (t2.mono fun _ e => .inl e)).and (P.2.2.mono fun _ e => .inr e))
  have hg1 : g < v1.heap.size := Nat.lt_of_lt_of_le hlg t2.size
  clear P hxr h2 t2 he hs HX0 HD0 HT0
  have HR := Lib.hid (show MDone w (v1.setCell ⟨x, 18, none⟩ (.int .i64 e1)) g x B (rRecall q o) nv by
    have e : rRecall q o = ({ q with ino := e1 }, s1) := by
      rw [HE1.out, HS1.out, HS0.out]; rfl
    rw [e]
    exact ⟨_, HD1.out, HX1.out, HT1.out⟩)
  go_wp2_with fail
  go_end0
  exact ⟨rfl, HR.out⟩

set_option maxHeartbeats 8000000 in
set_option maxRecDepth 8000 in
theorem rd_verbAsk {w : World} {g x B : Nat} {bv : Value} {o : OBs} (h : DS w g B bv o) (q : PK) (nv : Value) (hx : Row w x (q.cells nv)) (hxg : ¬ x = g) (hB : B ≤ x) :
    Calls Try.prog 77 #[.pointer (some ⟨g, 0, none⟩), .pointer (some ⟨x, 0, none⟩)] w fun e w' => e = .returned (.tuple #[]) ∧ MDone w w' g x B (rAsk true q o) nv := by
  have HD0 := Lib.hid h
  have HX0 := Lib.hid hx
  have HT0 := Lib.hid (Turn.refl (fun k => k = g ∨ k = x) w)
  have hlg := h.blk.1.1
  have hlx := hx.1.1
  obtain ⟨s0, hs0⟩ : ∃ s, s = o := ⟨_, rfl⟩
  rw [← hs0] at HD0
  have HS0 := Lib.hid hs0
  clear h hx hs0
  go_enter Try.func77, Try.ntmps77
  go_wp2_with fail
  refine (rd_number HD0.out 1 (by decide) 1 rfl).mono ?_
  rintro e v1 ⟨rfl, bv1, h2, t2⟩
  obtain ⟨e1, he⟩ : ∃ z, z = rN s0 1 := ⟨_, rfl⟩
  obtain ⟨s1, hs⟩ : ∃ z, z = rNr s0 1 := ⟨_, rfl⟩
  rw [← he]
  rw [← hs] at h2
  have HE1 := Lib.hid he
  have HS1 := Lib.hid hs
  have hxr := HX0.out.turnW t2 hxg
  have c4 := hxr.1.2 4 _ rfl
  have f4 := hxr.2 4 (by simp [PK.cells])
  have k4 := hxr.1.1
  have P := h2.put hxr hxg hB 4 (.int .i64 e1) (by simp [PK.cells])
  have HD1 := Lib.hid P.1
  have HX1 := Lib.hid (show Row (v1.setCell ⟨x, 4, none⟩ (.int .i64 e1)) x (({ q with op := e1 } : PK).cells nv) from P.2.1)
  have HT1 := Lib.hid ((HT0.out.and (t2.mono fun _ e => .inl e)).and (P.2.2.mono fun _ e => .inr e))
  have hg1 : g < v1.heap.size := Nat.lt_of_lt_of_le hlg t2.size
  clear P hxr h2 t2 he hs HX0 HD0 HT0
  go_wp2_with fail
  refine (rd_number HD1.out 4 (by decide) 4 rfl).mono ?_
  rintro e v2 ⟨rfl, bv2, h2, t2⟩
  obtain ⟨e2, he⟩ : ∃ z, z = rN s1 4 := ⟨_, rfl⟩
  obtain ⟨s2, hs⟩ : ∃ z, z = rNr s1 4 := ⟨_, rfl⟩
  rw [← he]
  rw [← hs] at h2
  have HE2 := Lib.hid he
  have HS2 := Lib.hid hs
  have hxr := HX1.out.turnW t2 hxg
  have c5 := hxr.1.2 5 _ rfl
  have f5 := hxr.2 5 (by simp [PK.cells])
  have k5 := hxr.1.1
  have P := h2.put hxr hxg hB 5 (.int .i64 e2) (by simp [PK.cells])
  have HD2 := Lib.hid P.1
  have HX2 := Lib.hid (show Row (v2.setCell ⟨x, 5, none⟩ (.int .i64 e2)) x (({ q with op := e1, at_ := e2 } : PK).cells nv) from P.2.1)
  have HT2 := Lib.hid ((HT1.out.and (t2.mono fun _ e => .inl e)).and (P.2.2.mono fun _ e => .inr e))
  have hg2 : g < v2.heap.size := Nat.lt_of_lt_of_le (show g < (v1.setCell ⟨x, 4, none⟩ (.int .i64 e1)).heap.size by simpa using hg1) t2.size
  clear P hxr h2 t2 he hs HX1 HD1 HT1
  go_wp2_with fail
  refine (rd_number HD2.out 2 (by decide) 2 rfl).mono ?_
  rintro e v3 ⟨rfl, bv3, h2, t2⟩
  obtain ⟨e3, he⟩ : ∃ z, z = rN s2 2 := ⟨_, rfl⟩
  obtain ⟨s3, hs⟩ : ∃ z, z = rNr s2 2 := ⟨_, rfl⟩
  rw [← he]
  rw [← hs] at h2
  have HE3 := Lib.hid he
  have HS3 := Lib.hid hs
  have hxr := HX2.out.turnW t2 hxg
  have c6 := hxr.1.2 6 _ rfl
  have f6 := hxr.2 6 (by simp [PK.cells])
  have k6 := hxr.1.1
  have P := h2.put hxr hxg hB 6 (.int .i64 e3) (by simp [PK.cells])
  have HD3 := Lib.hid P.1
  have HX3 := Lib.hid (show Row (v3.setCell ⟨x, 6, none⟩ (.int .i64 e3)) x (({ q with op := e1, at_ := e2, n := e3 } : PK).cells nv) from P.2.1)
  have HT3 := Lib.hid ((HT2.out.and (t2.mono fun _ e => .inl e)).and (P.2.2.mono fun _ e => .inr e))
  have hg3 : g < v3.heap.size := Nat.lt_of_lt_of_le (show g < (v2.setCell ⟨x, 5, none⟩ (.int .i64 e2)).heap.size by simpa using hg2) t2.size
  clear P hxr h2 t2 he hs HX2 HD2 HT2
  go_wp2_with fail
  refine (rd_text HD3.out 2 (by decide) 2 rfl 128).mono ?_
  rintro e v4 ⟨rfl, bv4, h2, t2⟩
  obtain ⟨e4, he⟩ : ∃ z, z = rTs s3 2 128 := ⟨_, rfl⟩
  obtain ⟨s4, hs⟩ : ∃ z, z = rTr s3 2 128 := ⟨_, rfl⟩
  rw [← he]
  rw [← hs] at h2
  have HE4 := Lib.hid he
  have HS4 := Lib.hid hs
  have hxr := HX3.out.turnW t2 hxg
  have c7 := hxr.1.2 7 _ rfl
  have f7 := hxr.2 7 (by simp [PK.cells])
  have k7 := hxr.1.1
  have P := h2.put hxr hxg hB 7 (.string e4) (by simp [PK.cells])
  have HD4 := Lib.hid P.1
  have HX4 := Lib.hid (show Row (v4.setCell ⟨x, 7, none⟩ (.string e4)) x (({ q with op := e1, at_ := e2, n := e3, data := e4 } : PK).cells nv) from P.2.1)
  have HT4 := Lib.hid ((HT3.out.and (t2.mono fun _ e => .inl e)).and (P.2.2.mono fun _ e => .inr e))
  have hg4 : g < v4.heap.size := Nat.lt_of_lt_of_le (show g < (v3.setCell ⟨x, 6, none⟩ (.int .i64 e3)).heap.size by simpa using hg3) t2.size
  clear P hxr h2 t2 he hs HX3 HD3 HT3
  go_wp2_with fail
  refine (rd_number HD4.out 8 (by decide) 8 rfl).mono ?_
  rintro e v5 ⟨rfl, bv5, h2, t2⟩
  obtain ⟨e5, he⟩ : ∃ z, z = rN s4 8 := ⟨_, rfl⟩
  obtain ⟨s5, hs⟩ : ∃ z, z = rNr s4 8 := ⟨_, rfl⟩
  rw [← he]
  rw [← hs] at h2
  have HE5 := Lib.hid he
  have HS5 := Lib.hid hs
  have hxr := HX4.out.turnW t2 hxg
  have c8 := hxr.1.2 8 _ rfl
  have f8 := hxr.2 8 (by simp [PK.cells])
  have k8 := hxr.1.1
  have P := h2.put hxr hxg hB 8 (.int .i64 e5) (by simp [PK.cells])
  have HD5 := Lib.hid P.1
  have HX5 := Lib.hid (show Row (v5.setCell ⟨x, 8, none⟩ (.int .i64 e5)) x (({ q with op := e1, at_ := e2, n := e3, data := e4, old := e5 } : PK).cells nv) from P.2.1)
  have HT5 := Lib.hid ((HT4.out.and (t2.mono fun _ e => .inl e)).and (P.2.2.mono fun _ e => .inr e))
  have hg5 : g < v5.heap.size := Nat.lt_of_lt_of_le (show g < (v4.setCell ⟨x, 7, none⟩ (.string e4)).heap.size by simpa using hg4) t2.size
  clear P hxr h2 t2 he hs HX4 HD4 HT4
  go_wp2_with fail
  refine (rd_number HD5.out 8 (by decide) 8 rfl).mono ?_
  rintro e v6 ⟨rfl, bv6, h2, t2⟩
  obtain ⟨e6, he⟩ : ∃ z, z = rN s5 8 := ⟨_, rfl⟩
  obtain ⟨s6, hs⟩ : ∃ z, z = rNr s5 8 := ⟨_, rfl⟩
  rw [← he]
  rw [← hs] at h2
  have HE6 := Lib.hid he
  have HS6 := Lib.hid hs
  have hxr := HX5.out.turnW t2 hxg
  have c9 := hxr.1.2 9 _ rfl
  have f9 := hxr.2 9 (by simp [PK.cells])
  have k9 := hxr.1.1
  have P := h2.put hxr hxg hB 9 (.int .i64 e6) (by simp [PK.cells])
  have HD6 := Lib.hid P.1
  have HX6 := Lib.hid (show Row (v6.setCell ⟨x, 9, none⟩ (.int .i64 e6)) x (({ q with op := e1, at_ := e2, n := e3, data := e4, old := e5, new := e6 } : PK).cells nv) from P.2.1)
  have HT6 := Lib.hid ((HT5.out.and (t2.mono fun _ e => .inl e)).and (P.2.2.mono fun _ e => .inr e))
  have hg6 : g < v6.heap.size := Nat.lt_of_lt_of_le (show g < (v5.setCell ⟨x, 8, none⟩ (.int .i64 e5)).heap.size by simpa using hg5) t2.size
  clear P hxr h2 t2 he hs HX5 HD5 HT5
  obtain ⟨wz, hwz⟩ : ∃ z, z = v6.setCell ⟨x, 9, none⟩ (.int .i64 e6) := ⟨_, rfl⟩
  have RES : ∀ w9, (∃ bv', DS w9 g B bv' (gd (verbB e1) s6) ∧ Row w9 x (({ q with op := e1, at_ := e2, n := e3, data := e4, old := e5, new := e6 } : PK).cells nv) ∧ Turn (fun k => k = g ∨ k = x) w w9) → MDone w w9 g x B (rAsk true q o) nv := by
    rintro w9 ⟨bv', a1, a2, a3⟩
    have e : rAsk true q o = ({ q with op := e1, at_ := e2, n := e3, data := e4, old := e5, new := e6 }, gd (verbB e1) s6) := by
      rw [HE6.out, HE5.out, HE4.out, HE3.out, HE2.out, HE1.out, HS6.out, HS5.out, HS4.out, HS3.out, HS2.out, HS1.out, HS0.out]; rfl
    rw [e]
    exact ⟨bv', a1, a2, a3⟩
  have HRES := Lib.hid RES
  have hgz : g < wz.heap.size := by rw [hwz]; simpa using hg6
  have HZ := Lib.hid hwz
  rw [← hwz] at HD6 HX6 HT6
  obtain ⟨d0, d1⟩ := HD6.out.blk.1.c2
  have hf1 := HD6.out.blk.2 1 (by simp)
  have c4 := HX6.out.1.2 4 _ rfl
  obtain ⟨fl, hfl⟩ : ∃ z, z = s6.isNone := ⟨_, rfl⟩
  rw [← hfl] at d1
  have HFL := Lib.hid hfl
  clear hfl RES
  have wzs : v6.setCell ⟨x, 9, none⟩ (.int .i64 e6) = wz := hwz.symm
  clear hwz
  cases fl with
  | true =>
    have HY := Lib.hid (HD6.out.flag (verbB e1) true (by rw [gd_isNone, ← HFL.out]; rfl))
    go_wp2_with fail
    go_end0
    exact ⟨rfl, HRES.out _ ⟨_, HY.out.1, HX6.out.turnW HY.out.2 hxg, HT6.out.and (HY.out.2.mono fun _ e => .inl e)⟩⟩
  | false =>
    have HY := Lib.hid (HD6.out.flag (verbB e1) (!verbB e1) (by rw [gd_isNone, ← HFL.out]; rfl))
    go_wp2_with fail
    refine (w_verb e1 _).mono ?_
    rintro e w4 ⟨rfl, rfl⟩
    go_wp2_with fail
    go_end0
    exact ⟨rfl, HRES.out _ ⟨_, HY.out.1, HX6.out.turnW HY.out.2 hxg, HT6.out.and (HY.out.2.mono fun _ e => .inl e)⟩⟩

set_option maxHeartbeats 8000000 in
set_option maxRecDepth 8000 in
theorem rd_verbTold {w : World} {g x B : Nat} {bv : Value} {o : OBs} (h : DS w g B bv o) (q : PK) (nv : Value) (hx : Row w x (q.cells nv)) (hxg : ¬ x = g) (hB : B ≤ x) :
    Calls Try.prog 78 #[.pointer (some ⟨g, 0, none⟩), .pointer (some ⟨x, 0, none⟩)] w fun e w' => e = .returned (.tuple #[]) ∧ MDone w w' g x B (rTold true q o) nv := by
  have HD0 := Lib.hid h
  have HX0 := Lib.hid hx
  have HT0 := Lib.hid (Turn.refl (fun k => k = g ∨ k = x) w)
  have hlg := h.blk.1.1
  have hlx := hx.1.1
  obtain ⟨s0, hs0⟩ : ∃ s, s = o := ⟨_, rfl⟩
  rw [← hs0] at HD0
  have HS0 := Lib.hid hs0
  clear h hx hs0
  go_enter Try.func78, Try.ntmps78
  go_wp2_with fail
  refine (rd_number HD0.out 1 (by decide) 1 rfl).mono ?_
  rintro e v1 ⟨rfl, bv1, h2, t2⟩
  obtain ⟨e1, he⟩ : ∃ z, z = rN s0 1 := ⟨_, rfl⟩
  obtain ⟨s1, hs⟩ : ∃ z, z = rNr s0 1 := ⟨_, rfl⟩
  rw [← he]
  rw [← hs] at h2
  have HE1 := Lib.hid he
  have HS1 := Lib.hid hs
  have hxr := HX0.out.turnW t2 hxg
  have c4 := hxr.1.2 4 _ rfl
  have f4 := hxr.2 4 (by simp [PK.cells])
  have k4 := hxr.1.1
  have P := h2.put hxr hxg hB 4 (.int .i64 e1) (by simp [PK.cells])
  have HD1 := Lib.hid P.1
  have HX1 := Lib.hid (show Row (v1.setCell ⟨x, 4, none⟩ (.int .i64 e1)) x (({ q with op := e1 } : PK).cells nv) from P.2.1)
  have HT1 := Lib.hid ((HT0.out.and (t2.mono fun _ e => .inl e)).and (P.2.2.mono fun _ e => .inr e))
  have hg1 : g < v1.heap.size := Nat.lt_of_lt_of_le hlg t2.size
  clear P hxr h2 t2 he hs HX0 HD0 HT0
  go_wp2_with fail
  refine (rd_number HD1.out 1 (by decide) 1 rfl).mono ?_
  rintro e v2 ⟨rfl, bv2, h2, t2⟩
  obtain ⟨e2, he⟩ : ∃ z, z = rN s1 1 := ⟨_, rfl⟩
  obtain ⟨s2, hs⟩ : ∃ z, z = rNr s1 1 := ⟨_, rfl⟩
  rw [← he]
  rw [← hs] at h2
  have HE2 := Lib.hid he
  have HS2 := Lib.hid hs
  have hxr := HX1.out.turnW t2 hxg
  have c19 := hxr.1.2 19 _ rfl
  have f19 := hxr.2 19 (by simp [PK.cells])
  have k19 := hxr.1.1
  have P := h2.put hxr hxg hB 19 (.int .i64 e2) (by simp [PK.cells])
  have HD2 := Lib.hid P.1
  have HX2 := Lib.hid (show Row (v2.setCell ⟨x, 19, none⟩ (.int .i64 e2)) x (({ q with op := e1, errno := e2 } : PK).cells nv) from P.2.1)
  have HT2 := Lib.hid ((HT1.out.and (t2.mono fun _ e => .inl e)).and (P.2.2.mono fun _ e => .inr e))
  have hg2 : g < v2.heap.size := Nat.lt_of_lt_of_le (show g < (v1.setCell ⟨x, 4, none⟩ (.int .i64 e1)).heap.size by simpa using hg1) t2.size
  clear P hxr h2 t2 he hs HX1 HD1 HT1
  go_wp2_with fail
  refine (rd_text HD2.out 2 (by decide) 2 rfl 128).mono ?_
  rintro e v3 ⟨rfl, bv3, h2, t2⟩
  obtain ⟨e3, he⟩ : ∃ z, z = rTs s2 2 128 := ⟨_, rfl⟩
  obtain ⟨s3, hs⟩ : ∃ z, z = rTr s2 2 128 := ⟨_, rfl⟩
  rw [← he]
  rw [← hs] at h2
  have HE3 := Lib.hid he
  have HS3 := Lib.hid hs
  have hxr := HX2.out.turnW t2 hxg
  have c7 := hxr.1.2 7 _ rfl
  have f7 := hxr.2 7 (by simp [PK.cells])
  have k7 := hxr.1.1
  have P := h2.put hxr hxg hB 7 (.string e3) (by simp [PK.cells])
  have HD3 := Lib.hid P.1
  have HX3 := Lib.hid (show Row (v3.setCell ⟨x, 7, none⟩ (.string e3)) x (({ q with op := e1, errno := e2, data := e3 } : PK).cells nv) from P.2.1)
  have HT3 := Lib.hid ((HT2.out.and (t2.mono fun _ e => .inl e)).and (P.2.2.mono fun _ e => .inr e))
  have hg3 : g < v3.heap.size := Nat.lt_of_lt_of_le (show g < (v2.setCell ⟨x, 19, none⟩ (.int .i64 e2)).heap.size by simpa using hg2) t2.size
  clear P hxr h2 t2 he hs HX2 HD2 HT2
  go_wp2_with fail
  refine (rd_number HD3.out 8 (by decide) 8 rfl).mono ?_
  rintro e v4 ⟨rfl, bv4, h2, t2⟩
  obtain ⟨e4, he⟩ : ∃ z, z = rN s3 8 := ⟨_, rfl⟩
  obtain ⟨s4, hs⟩ : ∃ z, z = rNr s3 8 := ⟨_, rfl⟩
  rw [← he]
  rw [← hs] at h2
  have HE4 := Lib.hid he
  have HS4 := Lib.hid hs
  have hxr := HX3.out.turnW t2 hxg
  have c8 := hxr.1.2 8 _ rfl
  have f8 := hxr.2 8 (by simp [PK.cells])
  have k8 := hxr.1.1
  have P := h2.put hxr hxg hB 8 (.int .i64 e4) (by simp [PK.cells])
  have HD4 := Lib.hid P.1
  have HX4 := Lib.hid (show Row (v4.setCell ⟨x, 8, none⟩ (.int .i64 e4)) x (({ q with op := e1, errno := e2, data := e3, old := e4 } : PK).cells nv) from P.2.1)
  have HT4 := Lib.hid ((HT3.out.and (t2.mono fun _ e => .inl e)).and (P.2.2.mono fun _ e => .inr e))
  have hg4 : g < v4.heap.size := Nat.lt_of_lt_of_le (show g < (v3.setCell ⟨x, 7, none⟩ (.string e3)).heap.size by simpa using hg3) t2.size
  clear P hxr h2 t2 he hs HX3 HD3 HT3
  obtain ⟨wz, hwz⟩ : ∃ z, z = v4.setCell ⟨x, 8, none⟩ (.int .i64 e4) := ⟨_, rfl⟩
  have RES : ∀ w9, (∃ bv', DS w9 g B bv' (gd (verbB e1) s4) ∧ Row w9 x (({ q with op := e1, errno := e2, data := e3, old := e4 } : PK).cells nv) ∧ Turn (fun k => k = g ∨ k = x) w w9) → MDone w w9 g x B (rTold true q o) nv := by
    rintro w9 ⟨bv', a1, a2, a3⟩
    have e : rTold true q o = ({ q with op := e1, errno := e2, data := e3, old := e4 }, gd (verbB e1) s4) := by
      rw [HE4.out, HE3.out, HE2.out, HE1.out, HS4.out, HS3.out, HS2.out, HS1.out, HS0.out]; rfl
    rw [e]
    exact ⟨bv', a1, a2, a3⟩
  have HRES := Lib.hid RES
  have hgz : g < wz.heap.size := by rw [hwz]; simpa using hg4
  have HZ := Lib.hid hwz
  rw [← hwz] at HD4 HX4 HT4
  obtain ⟨d0, d1⟩ := HD4.out.blk.1.c2
  have hf1 := HD4.out.blk.2 1 (by simp)
  have c4 := HX4.out.1.2 4 _ rfl
  obtain ⟨fl, hfl⟩ : ∃ z, z = s4.isNone := ⟨_, rfl⟩
  rw [← hfl] at d1
  have HFL := Lib.hid hfl
  clear hfl RES
  have wzs : v4.setCell ⟨x, 8, none⟩ (.int .i64 e4) = wz := hwz.symm
  clear hwz
  cases fl with
  | true =>
    have HY := Lib.hid (HD4.out.flag (verbB e1) true (by rw [gd_isNone, ← HFL.out]; rfl))
    go_wp2_with fail
    go_end0
    exact ⟨rfl, HRES.out _ ⟨_, HY.out.1, HX4.out.turnW HY.out.2 hxg, HT4.out.and (HY.out.2.mono fun _ e => .inl e)⟩⟩
  | false =>
    have HY := Lib.hid (HD4.out.flag (verbB e1) (!verbB e1) (by rw [gd_isNone, ← HFL.out]; rfl))
    go_wp2_with fail
    refine (w_verb e1 _).mono ?_
    rintro e w4 ⟨rfl, rfl⟩
    go_wp2_with fail
    go_end0
    exact ⟨rfl, HRES.out _ ⟨_, HY.out.1, HX4.out.turnW HY.out.2 hxg, HT4.out.and (HY.out.2.mono fun _ e => .inl e)⟩⟩

set_option maxHeartbeats 8000000 in
set_option maxRecDepth 8000 in
theorem rd_rpcAsk {w : World} {g x B : Nat} {bv : Value} {o : OBs} (h : DS w g B bv o) (q : PK) (nv : Value) (hx : Row w x (q.cells nv)) (hxg : ¬ x = g) (hB : B ≤ x) :
    Calls Try.prog 79 #[.pointer (some ⟨g, 0, none⟩), .pointer (some ⟨x, 0, none⟩)] w fun e w' => e = .returned (.tuple #[]) ∧ MDone w w' g x B (rRAsk true q o) nv := by
  have HD0 := Lib.hid h
  have HX0 := Lib.hid hx
  have HT0 := Lib.hid (Turn.refl (fun k => k = g ∨ k = x) w)
  have hlg := h.blk.1.1
  have hlx := hx.1.1
  obtain ⟨s0, hs0⟩ : ∃ s, s = o := ⟨_, rfl⟩
  rw [← hs0] at HD0
  have HS0 := Lib.hid hs0
  clear h hx hs0
  go_enter Try.func79, Try.ntmps79
  go_wp2_with fail
  refine (rd_number HD0.out 1 (by decide) 1 rfl).mono ?_
  rintro e v1 ⟨rfl, bv1, h2, t2⟩
  obtain ⟨e1, he⟩ : ∃ z, z = rN s0 1 := ⟨_, rfl⟩
  obtain ⟨s1, hs⟩ : ∃ z, z = rNr s0 1 := ⟨_, rfl⟩
  rw [← he]
  rw [← hs] at h2
  have HE1 := Lib.hid he
  have HS1 := Lib.hid hs
  have hxr := HX0.out.turnW t2 hxg
  have c4 := hxr.1.2 4 _ rfl
  have f4 := hxr.2 4 (by simp [PK.cells])
  have k4 := hxr.1.1
  have P := h2.put hxr hxg hB 4 (.int .i64 e1) (by simp [PK.cells])
  have HD1 := Lib.hid P.1
  have HX1 := Lib.hid (show Row (v1.setCell ⟨x, 4, none⟩ (.int .i64 e1)) x (({ q with op := e1 } : PK).cells nv) from P.2.1)
  have HT1 := Lib.hid ((HT0.out.and (t2.mono fun _ e => .inl e)).and (P.2.2.mono fun _ e => .inr e))
  have hg1 : g < v1.heap.size := Nat.lt_of_lt_of_le hlg t2.size
  clear P hxr h2 t2 he hs HX0 HD0 HT0
  go_wp2_with fail
  refine (rd_number HD1.out 1 (by decide) 1 rfl).mono ?_
  rintro e v2 ⟨rfl, bv2, h2, t2⟩
  obtain ⟨e2, he⟩ : ∃ z, z = rN s1 1 := ⟨_, rfl⟩
  obtain ⟨s2, hs⟩ : ∃ z, z = rNr s1 1 := ⟨_, rfl⟩
  rw [← he]
  rw [← hs] at h2
  have HE2 := Lib.hid he
  have HS2 := Lib.hid hs
  have hxr := HX1.out.turnW t2 hxg
  have c18 := hxr.1.2 18 _ rfl
  have f18 := hxr.2 18 (by simp [PK.cells])
  have k18 := hxr.1.1
  have P := h2.put hxr hxg hB 18 (.int .i64 e2) (by simp [PK.cells])
  have HD2 := Lib.hid P.1
  have HX2 := Lib.hid (show Row (v2.setCell ⟨x, 18, none⟩ (.int .i64 e2)) x (({ q with op := e1, ino := e2 } : PK).cells nv) from P.2.1)
  have HT2 := Lib.hid ((HT1.out.and (t2.mono fun _ e => .inl e)).and (P.2.2.mono fun _ e => .inr e))
  have hg2 : g < v2.heap.size := Nat.lt_of_lt_of_le (show g < (v1.setCell ⟨x, 4, none⟩ (.int .i64 e1)).heap.size by simpa using hg1) t2.size
  clear P hxr h2 t2 he hs HX1 HD1 HT1
  go_wp2_with fail
  refine (rd_text HD2.out 1 (by decide) 1 rfl 100).mono ?_
  rintro e v3 ⟨rfl, bv3, h2, t2⟩
  obtain ⟨e3, he⟩ : ∃ z, z = rTs s2 1 100 := ⟨_, rfl⟩
  obtain ⟨s3, hs⟩ : ∃ z, z = rTr s2 1 100 := ⟨_, rfl⟩
  rw [← he]
  rw [← hs] at h2
  have HE3 := Lib.hid he
  have HS3 := Lib.hid hs
  have hxr := HX2.out.turnW t2 hxg
  have c11 := hxr.1.2 11 _ rfl
  have f11 := hxr.2 11 (by simp [PK.cells])
  have k11 := hxr.1.1
  have P := h2.put hxr hxg hB 11 (.string e3) (by simp [PK.cells])
  have HD3 := Lib.hid P.1
  have HX3 := Lib.hid (show Row (v3.setCell ⟨x, 11, none⟩ (.string e3)) x (({ q with op := e1, ino := e2, path := e3 } : PK).cells nv) from P.2.1)
  have HT3 := Lib.hid ((HT2.out.and (t2.mono fun _ e => .inl e)).and (P.2.2.mono fun _ e => .inr e))
  have hg3 : g < v3.heap.size := Nat.lt_of_lt_of_le (show g < (v2.setCell ⟨x, 18, none⟩ (.int .i64 e2)).heap.size by simpa using hg2) t2.size
  clear P hxr h2 t2 he hs HX2 HD2 HT2
  go_wp2_with fail
  refine (rd_text HD3.out 1 (by decide) 1 rfl 100).mono ?_
  rintro e v4 ⟨rfl, bv4, h2, t2⟩
  obtain ⟨e4, he⟩ : ∃ z, z = rTs s3 1 100 := ⟨_, rfl⟩
  obtain ⟨s4, hs⟩ : ∃ z, z = rTr s3 1 100 := ⟨_, rfl⟩
  rw [← he]
  rw [← hs] at h2
  have HE4 := Lib.hid he
  have HS4 := Lib.hid hs
  have hxr := HX3.out.turnW t2 hxg
  have c12 := hxr.1.2 12 _ rfl
  have f12 := hxr.2 12 (by simp [PK.cells])
  have k12 := hxr.1.1
  have P := h2.put hxr hxg hB 12 (.string e4) (by simp [PK.cells])
  have HD4 := Lib.hid P.1
  have HX4 := Lib.hid (show Row (v4.setCell ⟨x, 12, none⟩ (.string e4)) x (({ q with op := e1, ino := e2, path := e3, path2 := e4 } : PK).cells nv) from P.2.1)
  have HT4 := Lib.hid ((HT3.out.and (t2.mono fun _ e => .inl e)).and (P.2.2.mono fun _ e => .inr e))
  have hg4 : g < v4.heap.size := Nat.lt_of_lt_of_le (show g < (v3.setCell ⟨x, 11, none⟩ (.string e3)).heap.size by simpa using hg3) t2.size
  clear P hxr h2 t2 he hs HX3 HD3 HT3
  go_wp2_with fail
  refine (rd_number HD4.out 1 (by decide) 1 rfl).mono ?_
  rintro e v5 ⟨rfl, bv5, h2, t2⟩
  obtain ⟨e5, he⟩ : ∃ z, z = rN s4 1 := ⟨_, rfl⟩
  obtain ⟨s5, hs⟩ : ∃ z, z = rNr s4 1 := ⟨_, rfl⟩
  rw [← he]
  rw [← hs] at h2
  have HE5 := Lib.hid he
  have HS5 := Lib.hid hs
  have hxr := HX4.out.turnW t2 hxg
  have c13 := hxr.1.2 13 _ rfl
  have f13 := hxr.2 13 (by simp [PK.cells])
  have k13 := hxr.1.1
  have P := h2.put hxr hxg hB 13 (.int .i64 e5) (by simp [PK.cells])
  have HD5 := Lib.hid P.1
  have HX5 := Lib.hid (show Row (v5.setCell ⟨x, 13, none⟩ (.int .i64 e5)) x (({ q with op := e1, ino := e2, path := e3, path2 := e4, flags := e5 } : PK).cells nv) from P.2.1)
  have HT5 := Lib.hid ((HT4.out.and (t2.mono fun _ e => .inl e)).and (P.2.2.mono fun _ e => .inr e))
  have hg5 : g < v5.heap.size := Nat.lt_of_lt_of_le (show g < (v4.setCell ⟨x, 12, none⟩ (.string e4)).heap.size by simpa using hg4) t2.size
  clear P hxr h2 t2 he hs HX4 HD4 HT4
  go_wp2_with fail
  refine (rd_number HD5.out 4 (by decide) 4 rfl).mono ?_
  rintro e v6 ⟨rfl, bv6, h2, t2⟩
  obtain ⟨e6, he⟩ : ∃ z, z = rN s5 4 := ⟨_, rfl⟩
  obtain ⟨s6, hs⟩ : ∃ z, z = rNr s5 4 := ⟨_, rfl⟩
  rw [← he]
  rw [← hs] at h2
  have HE6 := Lib.hid he
  have HS6 := Lib.hid hs
  have hxr := HX5.out.turnW t2 hxg
  have c16 := hxr.1.2 16 _ rfl
  have f16 := hxr.2 16 (by simp [PK.cells])
  have k16 := hxr.1.1
  have P := h2.put hxr hxg hB 16 (.int .i64 e6) (by simp [PK.cells])
  have HD6 := Lib.hid P.1
  have HX6 := Lib.hid (show Row (v6.setCell ⟨x, 16, none⟩ (.int .i64 e6)) x (({ q with op := e1, ino := e2, path := e3, path2 := e4, flags := e5, cn := e6 } : PK).cells nv) from P.2.1)
  have HT6 := Lib.hid ((HT5.out.and (t2.mono fun _ e => .inl e)).and (P.2.2.mono fun _ e => .inr e))
  have hg6 : g < v6.heap.size := Nat.lt_of_lt_of_le (show g < (v5.setCell ⟨x, 13, none⟩ (.int .i64 e5)).heap.size by simpa using hg5) t2.size
  clear P hxr h2 t2 he hs HX5 HD5 HT5
  have HR := Lib.hid (show MDone w (v6.setCell ⟨x, 16, none⟩ (.int .i64 e6)) g x B (rRAsk true q o) nv by
    have e : rRAsk true q o = ({ q with op := e1, ino := e2, path := e3, path2 := e4, flags := e5, cn := e6 }, s6) := by
      rw [HE6.out, HE5.out, HE4.out, HE3.out, HE2.out, HE1.out, HS6.out, HS5.out, HS4.out, HS3.out, HS2.out, HS1.out, HS0.out]; rfl
    rw [e]
    exact ⟨_, HD6.out, HX6.out, HT6.out⟩)
  go_wp2_with fail
  go_end0
  exact ⟨rfl, HR.out⟩
end Go.Proofs.Ytdlcpfgogjcciaa

namespace Go.Proofs.Ytdlcpfgogjcciaa
open Go.RowKit

/-- A slice of texts that is read. -/
def sts (l : List ByteArray) : List Value := l.map .string
def RS (w : World) (A : Option Addr) (n : Nat) (l : List ByteArray) : Prop := l.length = n ∧ Rd w w.heap.size A 1 n (sts l)
theorem RS.at_ {w : World} {A : Option Addr} {n : Nat} {K : List ByteArray} (h : RS w A n K) {i : Nat} (hi : i < n) : ∃ b o r, K[i]? = some r ∧ A = some ⟨b, o, none⟩ ∧ b < w.heap.size ∧ w.cell? ⟨b, o + i, none⟩ = some (.string r) := by
  obtain ⟨hn, hl, hr⟩ := h
  obtain ⟨b, o, rfl, hb, hc⟩ := hr (by omega)
  have hi' : i < K.length := by omega
  exact ⟨b, o, K[i], by simp [hi'], rfl, hb, hc i _ (by simp [sts, hi'])⟩
theorem blocks_ri {w : World} {x : Nat} {p : PK} {nv : Value} (h : Blk w x (p.cells nv)) : RI w (some ⟨x, 31, none⟩) 4 [p.b0, p.b1, p.b2, p.b3] := by
  refine ⟨rfl, rfl, fun _ => ⟨x, 31, rfl, h.1, fun j u hu => ?_⟩⟩
  match j, hu with
  | 0, hu => exact h.2 31 u hu
  | 1, hu => exact h.2 32 u hu
  | 2, hu => exact h.2 33 u hu
  | 3, hu => exact h.2 34 u hu
  | j + 4, hu => simp [ics] at hu
theorem pTs_snoc (o : OBs) (l : List ByteArray) (s : ByteArray) : pTs o (l ++ [s]) = pT (pTs o l) s 1 12 := by simp [pTs]
def NmInv (w wr : World) (g : Nat) (o : OBs) (l : List ByteArray) (N : Nat) (i : Value) : Prop := ∃ k : Nat, i = .int .i64 (k : Int) ∧ k ≤ l.length ∧ WDone w wr g (pTs o (l.take k)) (N + 1048584 * k)

set_option maxHeartbeats 16000000 in
set_option maxRecDepth 8000 in
theorem ww_rpcTold {w : World} {g N : Nat} {bv : Value} {o : OBs} (h : WS w g bv o N) (p : PK) (A : Option Addr) (c : Nat) (hr : RS w A p.names.length p.names) (hA : 0 < p.names.length → ∀ q, A = some q → q.block ≠ g) (hp : p.ok) (hN : N ≤ 10000) :
    Calls Try.prog 50 #[.pointer (some ⟨g, 0, none⟩), .agg #[.int .i64 p.kind, .int .i64 p.client, .int .i64 p.epoch, .int .i64 p.seq, .int .i64 p.op, .int .i64 p.at_, .int .i64 p.n, .string p.data, .int .i64 p.old, .int .i64 p.new, .int .i64 p.ckind, .string p.path, .string p.path2, .int .i64 p.flags, .int .i64 p.cfd, .int .i64 p.coff, .int .i64 p.cn, .string p.cdata, .int .i64 p.ino, .int .i64 p.errno, .int .i64 p.rerrno, .int .i64 p.rfd, .string p.rdata, .slice A p.names.length c, .int .i64 p.ikind, .int .i64 p.ilinks, .int .i64 p.isize, .int .i64 p.wrote, .int .i64 p.nkind, .int .i64 p.nlinks, .int .i64 p.nsize, .int .i64 p.b0, .int .i64 p.b1, .int .i64 p.b2, .int .i64 p.b3, .int .i64 p.o0, .int .i64 p.o1, .int .i64 p.o2, .int .i64 p.o3, .int .i64 p.o4, .int .i64 p.o5, .int .i64 p.o6, .int .i64 p.o7]] w fun e w' => e = .returned (.tuple #[]) ∧ WDone w w' g (bRTold p o) (N + 2000000000000) := by
  obtain ⟨w1, x, hw1, hx, h1, b1, hxg, g1, hl1, hlx⟩ := wboxed h p (.slice A p.names.length c)
  have HP := Lib.hid hp
  have HW0 := Lib.hid h1
  have BX0 := Lib.hid b1
  have HT0 := Lib.hid (Turn.grow g1 (fun k => k = g))
  have HR := Lib.hid hr
  have HA := Lib.hid hA
  obtain ⟨m, hm⟩ : ∃ m, m = p.names.length := ⟨_, rfl⟩
  have HM := Lib.hid hm
  have hm3 : m ≤ 1048576 := by rw [hm]; exact hp.names.1
  clear h hp h1 b1 g1 hr hA
  go_enter Try.func50, Try.ntmps50
  go_upto_region 1 with (fail)
  rw [← hw1, ← hx, ← hm]
  rw [← hm] at BX0 HR HA
  clear hw1 hx hm
  have c4 := BX0.out.2 4 _ rfl
  have c19 := BX0.out.2 19 _ rfl
  have c18 := BX0.out.2 18 _ rfl
  go_wp2_with fail
  refine (ww_nums HW0.out [p.op, p.errno, p.ino] (cons_mem HP.out.op (cons_mem HP.out.errno (one_mem HP.out.ino))) 1 1 rfl (by simp; omega) 3 rfl _ rfl).mono ?_
  rintro e v1 ⟨rfl, bv1, h2, t2⟩
  have HW1 := Lib.hid (show WS v1 g bv1 (pN (pN (pN o p.op 1) p.errno 1) p.ino 1) (N + 8 * 3) from h2)
  have HT1 := Lib.hid (HT0.out.and t2)
  have BX1 := Lib.hid (BX0.out.turnW t2 hxg)
  replace hl1 := Nat.lt_of_lt_of_le hl1 t2.size
  replace hlx := Nat.lt_of_lt_of_le hlx t2.size
  clear h2 t2 c4 c19 c18 BX0 HW0 HT0
  have c27 := BX1.out.2 27 _ rfl
  go_wp2_with fail
  refine (ww_nums HW1.out [p.wrote] (one_mem HP.out.wrote) 8 8 rfl (by simp; omega) 1 rfl _ rfl).mono ?_
  rintro e v2 ⟨rfl, bv2, h2, t2⟩
  have HW2 := Lib.hid (show WS v2 g bv2 (pN (pN (pN (pN o p.op 1) p.errno 1) p.ino 1) p.wrote 8) ((N + 8 * 3) + 8 * 1) from h2)
  have HT2 := Lib.hid (HT1.out.and t2)
  have BX2 := Lib.hid (BX1.out.turnW t2 hxg)
  replace hl1 := Nat.lt_of_lt_of_le hl1 t2.size
  replace hlx := Nat.lt_of_lt_of_le hlx t2.size
  clear h2 t2 c27 BX1 HW1 HT1
  have c5 := BX2.out.2 5 _ rfl
  go_wp2_with fail
  refine (ww_nums HW2.out [p.at_] (one_mem HP.out.at_) 4 4 rfl (by simp; omega) 1 rfl _ rfl).mono ?_
  rintro e v3 ⟨rfl, bv3, h2, t2⟩
  have HW3 := Lib.hid (show WS v3 g bv3 (pN (pN (pN (pN (pN o p.op 1) p.errno 1) p.ino 1) p.wrote 8) p.at_ 4) (((N + 8 * 3) + 8 * 1) + 8 * 1) from h2)
  have HT3 := Lib.hid (HT2.out.and t2)
  have BX3 := Lib.hid (BX2.out.turnW t2 hxg)
  replace hl1 := Nat.lt_of_lt_of_le hl1 t2.size
  replace hlx := Nat.lt_of_lt_of_le hlx t2.size
  clear h2 t2 c5 BX2 HW2 HT2
  have c24 := BX3.out.2 24 _ rfl
  have c25 := BX3.out.2 25 _ rfl
  go_wp2_with fail
  refine (ww_nums HW3.out [p.ikind, p.ilinks] (cons_mem HP.out.ikind (one_mem HP.out.ilinks)) 1 1 rfl (by simp; omega) 2 rfl _ rfl).mono ?_
  rintro e v4 ⟨rfl, bv4, h2, t2⟩
  have HW4 := Lib.hid (show WS v4 g bv4 (pN (pN (pN (pN (pN (pN (pN o p.op 1) p.errno 1) p.ino 1) p.wrote 8) p.at_ 4) p.ikind 1) p.ilinks 1) ((((N + 8 * 3) + 8 * 1) + 8 * 1) + 8 * 2) from h2)
  have HT4 := Lib.hid (HT3.out.and t2)
  have BX4 := Lib.hid (BX3.out.turnW t2 hxg)
  replace hl1 := Nat.lt_of_lt_of_le hl1 t2.size
  replace hlx := Nat.lt_of_lt_of_le hlx t2.size
  clear h2 t2 c24 c25 BX3 HW3 HT3
  have c26 := BX4.out.2 26 _ rfl
  go_wp2_with fail
  refine (ww_nums HW4.out [p.isize] (one_mem HP.out.isize) 2 2 rfl (by simp; omega) 1 rfl _ rfl).mono ?_
  rintro e v5 ⟨rfl, bv5, h2, t2⟩
  have HW5 := Lib.hid (show WS v5 g bv5 (pN (pN (pN (pN (pN (pN (pN (pN o p.op 1) p.errno 1) p.ino 1) p.wrote 8) p.at_ 4) p.ikind 1) p.ilinks 1) p.isize 2) (((((N + 8 * 3) + 8 * 1) + 8 * 1) + 8 * 2) + 8 * 1) from h2)
  have HT5 := Lib.hid (HT4.out.and t2)
  have BX5 := Lib.hid (BX4.out.turnW t2 hxg)
  replace hl1 := Nat.lt_of_lt_of_le hl1 t2.size
  replace hlx := Nat.lt_of_lt_of_le hlx t2.size
  clear h2 t2 c26 BX4 HW4 HT4
  have c28 := BX5.out.2 28 _ rfl
  have c29 := BX5.out.2 29 _ rfl
  go_wp2_with fail
  refine (ww_nums HW5.out [p.nkind, p.nlinks] (cons_mem HP.out.nkind (one_mem HP.out.nlinks)) 1 1 rfl (by simp; omega) 2 rfl _ rfl).mono ?_
  rintro e v6 ⟨rfl, bv6, h2, t2⟩
  have HW6 := Lib.hid (show WS v6 g bv6 (pN (pN (pN (pN (pN (pN (pN (pN (pN (pN o p.op 1) p.errno 1) p.ino 1) p.wrote 8) p.at_ 4) p.ikind 1) p.ilinks 1) p.isize 2) p.nkind 1) p.nlinks 1) ((((((N + 8 * 3) + 8 * 1) + 8 * 1) + 8 * 2) + 8 * 1) + 8 * 2) from h2)
  have HT6 := Lib.hid (HT5.out.and t2)
  have BX6 := Lib.hid (BX5.out.turnW t2 hxg)
  replace hl1 := Nat.lt_of_lt_of_le hl1 t2.size
  replace hlx := Nat.lt_of_lt_of_le hlx t2.size
  clear h2 t2 c28 c29 BX5 HW5 HT5
  have c30 := BX6.out.2 30 _ rfl
  go_wp2_with fail
  refine (ww_nums HW6.out [p.nsize] (one_mem HP.out.nsize) 2 2 rfl (by simp; omega) 1 rfl _ rfl).mono ?_
  rintro e v7 ⟨rfl, bv7, h2, t2⟩
  have HW7 := Lib.hid (show WS v7 g bv7 (pN (pN (pN (pN (pN (pN (pN (pN (pN (pN (pN o p.op 1) p.errno 1) p.ino 1) p.wrote 8) p.at_ 4) p.ikind 1) p.ilinks 1) p.isize 2) p.nkind 1) p.nlinks 1) p.nsize 2) (((((((N + 8 * 3) + 8 * 1) + 8 * 1) + 8 * 2) + 8 * 1) + 8 * 2) + 8 * 1) from h2)
  have HT7 := Lib.hid (HT6.out.and t2)
  have BX7 := Lib.hid (BX6.out.turnW t2 hxg)
  replace hl1 := Nat.lt_of_lt_of_le hl1 t2.size
  replace hlx := Nat.lt_of_lt_of_le hlx t2.size
  clear h2 t2 c30 BX6 HW6 HT6
  have e31 : (⟨x, 31, none⟩ : Addr) = ⟨x, 31, none⟩ := rfl
  go_wp2_with fail
  refine (ww_numbers HW7.out (blocks_ri BX7.out) (cons_mem HP.out.b0 (cons_mem HP.out.b1 (cons_mem HP.out.b2 (one_mem HP.out.b3)))) (fun _ q hq => by injection hq with hq; subst hq; exact hxg) 1 (by omega)).mono ?_
  rintro e v8 ⟨rfl, ⟨bv8, h2, t2⟩, -⟩
  have HW8 := Lib.hid (show WS v8 g bv8 (pN (pN (pN (pN (pN (pN (pN (pN (pN (pN (pN (pN (pN (pN (pN o p.op 1) p.errno 1) p.ino 1) p.wrote 8) p.at_ 4) p.ikind 1) p.ilinks 1) p.isize 2) p.nkind 1) p.nlinks 1) p.nsize 2) p.b0 1) p.b1 1) p.b2 1) p.b3 1) ((((((((N + 8 * 3) + 8 * 1) + 8 * 1) + 8 * 2) + 8 * 1) + 8 * 2) + 8 * 1) + 8 * 4) from h2)
  have HT8 := Lib.hid (HT7.out.and t2)
  have BX8 := Lib.hid (BX7.out.turnW t2 hxg)
  replace hl1 := Nat.lt_of_lt_of_le hl1 t2.size
  replace hlx := Nat.lt_of_lt_of_le hlx t2.size
  clear h2 t2 e31 BX7 HW7 HT7
  have HW0 := Lib.hid (show WS v8 g bv8 (bRTold0 p o) (N + 200) from HW8.out.mono (by omega))
  have BX0 := BX8
  have HT0 := HT8
  obtain ⟨o0, ho0⟩ : ∃ z, z = bRTold0 p o := ⟨_, rfl⟩
  rw [← ho0] at HW0
  have HO0 := Lib.hid ho0
  clear ho0 HW8 BX8 HT8
  go_upto_region 9 with (fail)
  go_cut [0] (fun v wx => v = .pointer (some ⟨g, 0, none⟩) ∧ ∃ bv', WS wx g bv' (gd (decide (m ≤ 16)) o0) (N + 200) ∧ Turn (fun k => k = g) v8 wx)
  case first =>
    obtain ⟨d0, d1⟩ := HW0.out.blk.1.c2
    have hf1 := HW0.out.blk.2 1 (by simp)
    have c23 := BX0.out.2 23 _ rfl
    obtain ⟨fl, hfl⟩ : ∃ z, z = o0.isNone := ⟨_, rfl⟩
    rw [← hfl] at d1
    have HFL := Lib.hid hfl
    clear hfl
    cases fl with
    | true =>
      have HY := Lib.hid (HW0.out.flag (decide (m ≤ 16)) true (by rw [gd_isNone, ← HFL.out]; rfl))
      go_wp2_with fail
      go_meet
      exact ⟨rfl, _, HY.out.2.1, HY.out.2.2⟩
    | false =>
      by_cases hm16 : 16 < m
      · have HY := Lib.hid (HW0.out.flag (decide (m ≤ 16)) true (by rw [gd_isNone, ← HFL.out, decide_eq_false (by omega)]; rfl))
        have z1 : decide (16 < m) = true := decide_eq_true hm16
        have z2 : decide ((16 : Int) < (m : Int)) = true := decide_eq_true (by omega)
        go_wp2_with fail
        go_meet
        exact ⟨rfl, _, HY.out.2.1, HY.out.2.2⟩
      · have HY := Lib.hid (HW0.out.flag (decide (m ≤ 16)) false (by rw [gd_isNone, ← HFL.out, decide_eq_true (by omega)]; rfl))
        have z1 : decide (16 < m) = false := decide_eq_false hm16
        have z2 : decide ((16 : Int) < (m : Int)) = false := decide_eq_false (by omega)
        go_wp2_with fail
        go_meet
        exact ⟨rfl, _, HY.out.2.1, HY.out.2.2⟩
  case rest =>
    obtain ⟨rfl, bv1, h2, t2⟩ := hcut
    have HW1 := Lib.hid h2
    have HT1 := Lib.hid (HT0.out.and t2)
    have BX1 := Lib.hid (BX0.out.turnW t2 hxg)
    have c23 := BX1.out.2 23 _ rfl
    clear h2 t2 BX0 HW0 HT0
    go_wp2_with fail
    refine (ww_nums HW1.out [(m : Int)] (one_mem ⟨by omega, by omega⟩) 1 1 rfl (by simp; omega) 1 rfl _ rfl).mono ?_
    rintro e w3 ⟨rfl, bv3, h3, t3⟩
    have HW3 := Lib.hid (show WS w3 g bv3 (pN (gd (decide (m ≤ 16)) o0) m 1) (N + 200 + 8) from h3)
    have HT3 := Lib.hid (HT1.out.and t3)
    have BX3 := Lib.hid (BX1.out.turnW t3 hxg)
    obtain ⟨o3, ho3⟩ : ∃ z, z = pN (gd (decide (m ≤ 16)) o0) m 1 := ⟨_, rfl⟩
    rw [← ho3] at HW3
    have HO3 := Lib.hid ho3
    have c23 := BX3.out.2 23 _ rfl
    clear h3 t3 BX1 HW1 HT1 ho3
    go_wp2_with fail
    go_loopw [88] (fun i wr => NmInv w3 wr g o3 p.names (N + 208) i) (fun i _ => m - (intOf i).toNat)
    case atStart => exact ⟨0, rfl, Nat.zero_le _, bv3, HW3.out, Turn.refl _ _⟩
    case round =>
      obtain ⟨k, rfl, hk, bvk, hws, ht⟩ := hrel
      have hk' : k ≤ m := by rw [HM.out]; exact hk
      by_cases hlt : k < m
      · obtain ⟨b, o1, r, hrk, rfl, hb, c0⟩ := HR.out.at_ hlt
        have hbg : b ≠ g := HA.out (by omega) _ rfl
        have c1 := (HT3.out.and ht).cellW c0 hbg
        have hrs : r.size ≤ 1048576 := HP.out.names.2 r (List.mem_of_getElem? hrk)
        have HST := Lib.hid (show pTs o3 (p.names.take (k + 1)) = pT (pTs o3 (p.names.take k)) r 1 12 by rw [take_snoc hrk, pTs_snoc])
        have HW := Lib.hid hws
        have HT := Lib.hid ht
        have HK := Lib.hid hk
        clear hws ht c0 hrk hk c23
        go_wp2_with fail
        refine (ww_text HW.out r 1 12 (by omega) (by omega)).mono ?_
        rintro e w5 ⟨rfl, bv5, h5, t5⟩
        have X : NmInv w3 w5 g o3 p.names (N + 208) (.int .i64 ((k : Int) + 1)) := ⟨k + 1, by simp, by rw [← HM.out]; exact hlt, bv5, by rw [HST.out]; exact h5.mono (by omega), HT.out.and t5⟩
        have HX := Lib.hid X
        clear X h5 t5 c1
        go_wp2_with fail
        go_roundw
        have e5 : wrap64 ((k : Int) + 1) = (k : Int) + 1 := IntWalk.wrap64_in _ (by omega)
        case rel => (try rw [e5]); first | exact HX.out | ((repeat apply Exists.intro); exact HX.out) | ((repeat apply Exists.intro); refine ⟨HX.out, ?_⟩; rfl)
        case measure => (have e5 : wrap64 ((k : Int) + 1) = (k : Int) + 1 := IntWalk.wrap64_in _ (by omega)); first | exact measV hlt | (rw [e5]; exact measV hlt)
      · obtain rfl : k = m := by omega
        have el : p.names.take k = p.names := List.take_of_length_le (by rw [HM.out]; exact Nat.le_refl _)
        rw [el] at hws
        have HD := Lib.hid (show WDone w wr g (bRTold p o) (N + 2000000000000) from ⟨bvk, by
          have e1 : bRTold p o = pTs o3 p.names := by
            unfold bRTold
            rw [HO3.out, HO0.out, ← HM.out]
          rw [e1]; exact hws.mono (by omega), HT3.out.and ht⟩)
        clear hws ht el
        go_wp2_with fail
        go_end0
        exact ⟨rfl, HD.out⟩
end Go.Proofs.Ytdlcpfgogjcciaa

namespace Go.Proofs.Ytdlcpfgogjcciaa
open Go.RowKit

/-- Blocks, one by one. -/
def setB : Nat → PK → Int → PK
  | 0, p, v => { p with b0 := v }
  | 1, p, v => { p with b1 := v }
  | 2, p, v => { p with b2 := v }
  | 3, p, v => { p with b3 := v }
  | _, p, _ => p
def stB (o : OBs) : Nat → OBs
  | 0 => o
  | k + 1 => rNr (stB o k) 1
def pkB (q : PK) (o : OBs) : Nat → PK
  | 0 => q
  | k + 1 => setB k (pkB q o k) (rN (stB o k) 1)
theorem setB_cells {k : Nat} (hk : k < 4) (p : PK) (nv : Value) (v : Int) : (p.cells nv).set (31 + k) (.int .i64 v) = (setB k p v).cells nv := by
  match k, hk with
  | 0, _ => rfl
  | 1, _ => rfl
  | 2, _ => rfl
  | 3, _ => rfl
def BlInv (w wr : World) (g x B : Nat) (q : PK) (o : OBs) (nv i : Value) : Prop := ∃ k : Nat, i = .int .i64 (k : Int) ∧ k ≤ 4 ∧ ∃ bv, DS wr g B bv (stB o k) ∧ Row wr x ((pkB q o k).cells nv) ∧ Turn (fun k => k = g ∨ k = x) w wr

/-- Names, one by one. -/
def stN (o : OBs) : Nat → OBs
  | 0 => o
  | k + 1 => rTr (stN o k) 1 12
def nmN (o : OBs) : Nat → List ByteArray
  | 0 => []
  | k + 1 => nmN o k ++ [rTs (stN o k) 1 12]
theorem nmN_length (o : OBs) (k : Nat) : (nmN o k).length = k := by
  induction k with
  | zero => rfl
  | succ k ih => rw [nmN, List.length_append, ih]; rfl
theorem names_run (o : OBs) (m : Nat) : ∀ k, k ≤ m → (∀ j, j < k → (stN o j).isSome = true) → rNames true m o = (nmN o k ++ (rNames true (m - k) (stN o k)).1, (rNames true (m - k) (stN o k)).2) := by
  intro k
  induction k with
  | zero => intro _ _; rfl
  | succ k ih =>
    intro hk hs
    rw [ih (by omega) (fun j hj => hs j (by omega))]
    obtain ⟨b, hb⟩ := Option.isSome_iff_exists.1 (hs k (by omega))
    obtain ⟨r, hr⟩ : ∃ r, m - k = r + 1 := ⟨m - k - 1, by omega⟩
    have hr2 : m - (k + 1) = r := by omega
    rw [hr, hr2]
    have e : stN o (k + 1) = rTr (some b) 1 (mo true 12) := by show rTr (stN o k) 1 12 = _; rw [hb]; rfl
    have e2 : nmN o (k + 1) = nmN o k ++ [rTs (some b) 1 (mo true 12)] := by show nmN o k ++ [rTs (stN o k) 1 12] = _; rw [hb]; rfl
    rw [e, e2, hb, List.append_assoc]
    rfl
theorem names_end (o : OBs) (m k : Nat) (hk : k ≤ m) (hs : ∀ j, j < k → (stN o j).isSome = true) (he : k = m ∨ stN o k = none) : rNames true m o = (nmN o k, stN o k) := by
  rw [names_run o m k hk hs]
  rcases he with rfl | he
  · rw [Nat.sub_self]
    show (nmN o k ++ [], stN o k) = _
    rw [List.append_nil]
  · rw [he]
    cases m - k with
    | zero => show (nmN o k ++ [], none) = _; rw [List.append_nil]
    | succ r => show (nmN o k ++ [], none) = _; rw [List.append_nil]
/-- A row of texts of the call's own. -/
def OS (w : World) (base : Nat) (v : Value) (l : List ByteArray) : Prop := w.ownsRow base 9 1 v l.length (sts l)
theorem OS.keep {w w' : World} {base : Nat} {v : Value} {l : List ByteArray} (h : OS w base v l) (g : Grow w w') : OS w' base v l := row_turnW (w := w) h (Turn.grow g (fun _ => False)) (fun _ _ q => q)
theorem sts_append (a b : List ByteArray) : sts (a ++ b) = sts a ++ sts b := by simp [sts]
theorem sts_one (a : List ByteArray) : ∀ u ∈ sts a, u.oneCell' = true := by
  intro u hu
  obtain ⟨r, -, rfl⟩ := List.mem_map.1 hu
  rfl
theorem str_info : (Try.prog.info? 9).map (fun i => (i.zero, i.size, i.bytes)) = some (some (.string ⟨#[]⟩), 1, 16) := by kernel_rfl
theorem step_appS {w : World} {ops : Array Oper} {o : Oper} {a : Act} {K : Act → World → Prop} {Q : Exit → Act → World → Prop} {E : Prop} (hgd : o.guard = none) (s x : Operand)
    (ho : o.op = .call { callee := .builtin .append, args := #[s, x], argTypes := #[26, 26] })
    (base : Nat) (v : Value) (L : List ByteArray) (hs : a.eval s = v) (r : ByteArray) (B : Nat) (A : Option Addr) (hx : a.eval x = .slice A 1 1) (hr : Rd w B A 1 1 (sts [r])) (hown : OS w base v L)
    (h63 : L.length + 1 ≤ 1000000) (hbase : base ≤ w.heap.size)
    (h : ∀ v' w', OS w' base v' (L ++ [r]) → w.grownBy w' v.ownBlock → (v'.ownBlock = v.ownBlock ∨ v'.ownBlock = some w.heap.size) → K (a.put o.dst v') w') : if Region.wanted o (yielded ops a.tmps) = true then Oper.wp Try.prog o a w K Q else E := by
  have hw : Region.wanted o (yielded ops a.tmps) = true := by simp [Region.wanted, hgd]
  rw [if_pos hw]
  obtain ⟨i0, hi, hz, h1, h2⟩ := info_parts str_info
  obtain ⟨v', w', hrun, h3, h4, h5⟩ := app_any (P := Try.prog) w base 26 o.type 9 i0 _ 1 16 Try.underlying26 hi hz h1 h2 rfl (by omega) v L.length (sts L) hown B A 1 1 (sts [r]) hr (sts_one [r]) (by unfold maxLen; omega) (by omega) hbase
  unfold Oper.wp execOp
  simp only [ho, resolve, invoke, builtin, Sem.run_bind, Sem.run_pure, Result.andThen_ok, List.map_toArray, List.map_cons, List.map_nil, hs, hx, hrun]
  exact h v' w' (by unfold OS; rw [List.length_append, sts_append]; exact h3) h4 h5
theorem Rd.litS {w w' : World} (r : ByteArray) (g : Grow (w.alloc (.cells #[.string r] 9)) w') : Rd w' (w.heap.size + 1) (some ⟨w.heap.size, 0, none⟩) 1 1 (sts [r]) := by
  have h := Rd.litV w 9 (sts [r]) 1 1 rfl
  exact Rd.below h (g.mono (by simp))
/-- At a round of the loop of names. -/
def NaInv (w wr : World) (g x B : Nat) (q : PK) (o : OBs) (m : Nat) (i : Value) : Prop := ∃ (k : Nat) (bv nv : Value), i = .int .i64 (k : Int) ∧ k ≤ m ∧ k ≤ 16 ∧ (∀ j, j < k → (stN o j).isSome = true) ∧ DS wr g B bv (stN o k) ∧ Row wr x (({ q with names := nmN o k } : PK).cells nv) ∧ OS wr w.heap.size nv (nmN o k) ∧ Turn (fun k => k = g ∨ k = x) w wr

set_option maxHeartbeats 16000000 in
set_option maxRecDepth 8000 in
theorem rd_rpcTold {w : World} {g x B : Nat} {bv : Value} {o : OBs} (h : DS w g B bv o) (q : PK) (hx : Row w x (q.cells (.slice none 0 0))) (hxg : ¬ x = g) (hB : B ≤ x) :
    Calls Try.prog 80 #[.pointer (some ⟨g, 0, none⟩), .pointer (some ⟨x, 0, none⟩)] w fun e w' => e = .returned (.tuple #[]) ∧ ∃ nv, MDone w w' g x B (rRTold true q o) nv ∧ ((rRTold true q o).2.isSome = true → OS w' w.heap.size nv (rRTold true q o).1.names) := by
  obtain ⟨nv, hnv⟩ : ∃ nv, nv = Value.slice none 0 0 := ⟨_, rfl⟩
  rw [← hnv] at hx
  have HNV := Lib.hid hnv
  have HD0 := Lib.hid h
  have HX0 := Lib.hid hx
  have HT0 := Lib.hid (Turn.refl (fun k => k = g ∨ k = x) w)
  have hlg := h.blk.1.1
  have hlx := hx.1.1
  obtain ⟨s0, hs0⟩ : ∃ s, s = o := ⟨_, rfl⟩
  rw [← hs0] at HD0
  have HS0 := Lib.hid hs0
  clear h hx hs0 hnv
  go_enter Try.func80, Try.ntmps80
  go_wp2_with fail
  refine (rd_number HD0.out 1 (by decide) 1 rfl).mono ?_
  rintro e v1 ⟨rfl, bv1, h2, t2⟩
  obtain ⟨e1, he⟩ : ∃ z, z = rN s0 1 := ⟨_, rfl⟩
  obtain ⟨s1, hs⟩ : ∃ z, z = rNr s0 1 := ⟨_, rfl⟩
  rw [← he]
  rw [← hs] at h2
  have HE1 := Lib.hid he
  have HS1 := Lib.hid hs
  have hxr := HX0.out.turnW t2 hxg
  have c4 := hxr.1.2 4 _ rfl
  have f4 := hxr.2 4 (by simp [PK.cells])
  have k4 := hxr.1.1
  have P := h2.put hxr hxg hB 4 (.int .i64 e1) (by simp [PK.cells])
  have HD1 := Lib.hid P.1
  have HX1 := Lib.hid (show Row (v1.setCell ⟨x, 4, none⟩ (.int .i64 e1)) x (({ q with op := e1 } : PK).cells nv) from P.2.1)
  have HT1 := Lib.hid ((HT0.out.and (t2.mono fun _ e => .inl e)).and (P.2.2.mono fun _ e => .inr e))
  have hg1 : g < v1.heap.size := Nat.lt_of_lt_of_le hlg t2.size
  clear P hxr h2 t2 he hs HX0 HD0 HT0
  go_wp2_with fail
  refine (rd_number HD1.out 1 (by decide) 1 rfl).mono ?_
  rintro e v2 ⟨rfl, bv2, h2, t2⟩
  obtain ⟨e2, he⟩ : ∃ z, z = rN s1 1 := ⟨_, rfl⟩
  obtain ⟨s2, hs⟩ : ∃ z, z = rNr s1 1 := ⟨_, rfl⟩
  rw [← he]
  rw [← hs] at h2
  have HE2 := Lib.hid he
  have HS2 := Lib.hid hs
  have hxr := HX1.out.turnW t2 hxg
  have c19 := hxr.1.2 19 _ rfl
  have f19 := hxr.2 19 (by simp [PK.cells])
  have k19 := hxr.1.1
  have P := h2.put hxr hxg hB 19 (.int .i64 e2) (by simp [PK.cells])
  have HD2 := Lib.hid P.1
  have HX2 := Lib.hid (show Row (v2.setCell ⟨x, 19, none⟩ (.int .i64 e2)) x (({ q with op := e1, errno := e2 } : PK).cells nv) from P.2.1)
  have HT2 := Lib.hid ((HT1.out.and (t2.mono fun _ e => .inl e)).and (P.2.2.mono fun _ e => .inr e))
  have hg2 : g < v2.heap.size := Nat.lt_of_lt_of_le (show g < (v1.setCell ⟨x, 4, none⟩ (.int .i64 e1)).heap.size by simpa using hg1) t2.size
  clear P hxr h2 t2 he hs HX1 HD1 HT1
  go_wp2_with fail
  refine (rd_number HD2.out 1 (by decide) 1 rfl).mono ?_
  rintro e v3 ⟨rfl, bv3, h2, t2⟩
  obtain ⟨e3, he⟩ : ∃ z, z = rN s2 1 := ⟨_, rfl⟩
  obtain ⟨s3, hs⟩ : ∃ z, z = rNr s2 1 := ⟨_, rfl⟩
  rw [← he]
  rw [← hs] at h2
  have HE3 := Lib.hid he
  have HS3 := Lib.hid hs
  have hxr := HX2.out.turnW t2 hxg
  have c18 := hxr.1.2 18 _ rfl
  have f18 := hxr.2 18 (by simp [PK.cells])
  have k18 := hxr.1.1
  have P := h2.put hxr hxg hB 18 (.int .i64 e3) (by simp [PK.cells])
  have HD3 := Lib.hid P.1
  have HX3 := Lib.hid (show Row (v3.setCell ⟨x, 18, none⟩ (.int .i64 e3)) x (({ q with op := e1, errno := e2, ino := e3 } : PK).cells nv) from P.2.1)
  have HT3 := Lib.hid ((HT2.out.and (t2.mono fun _ e => .inl e)).and (P.2.2.mono fun _ e => .inr e))
  have hg3 : g < v3.heap.size := Nat.lt_of_lt_of_le (show g < (v2.setCell ⟨x, 19, none⟩ (.int .i64 e2)).heap.size by simpa using hg2) t2.size
  clear P hxr h2 t2 he hs HX2 HD2 HT2
  go_wp2_with fail
  refine (rd_number HD3.out 8 (by decide) 8 rfl).mono ?_
  rintro e v4 ⟨rfl, bv4, h2, t2⟩
  obtain ⟨e4, he⟩ : ∃ z, z = rN s3 8 := ⟨_, rfl⟩
  obtain ⟨s4, hs⟩ : ∃ z, z = rNr s3 8 := ⟨_, rfl⟩
  rw [← he]
  rw [← hs] at h2
  have HE4 := Lib.hid he
  have HS4 := Lib.hid hs
  have hxr := HX3.out.turnW t2 hxg
  have c27 := hxr.1.2 27 _ rfl
  have f27 := hxr.2 27 (by simp [PK.cells])
  have k27 := hxr.1.1
  have P := h2.put hxr hxg hB 27 (.int .i64 e4) (by simp [PK.cells])
  have HD4 := Lib.hid P.1
  have HX4 := Lib.hid (show Row (v4.setCell ⟨x, 27, none⟩ (.int .i64 e4)) x (({ q with op := e1, errno := e2, ino := e3, wrote := e4 } : PK).cells nv) from P.2.1)
  have HT4 := Lib.hid ((HT3.out.and (t2.mono fun _ e => .inl e)).and (P.2.2.mono fun _ e => .inr e))
  have hg4 : g < v4.heap.size := Nat.lt_of_lt_of_le (show g < (v3.setCell ⟨x, 18, none⟩ (.int .i64 e3)).heap.size by simpa using hg3) t2.size
  clear P hxr h2 t2 he hs HX3 HD3 HT3
  go_wp2_with fail
  refine (rd_number HD4.out 4 (by decide) 4 rfl).mono ?_
  rintro e v5 ⟨rfl, bv5, h2, t2⟩
  obtain ⟨e5, he⟩ : ∃ z, z = rN s4 4 := ⟨_, rfl⟩
  obtain ⟨s5, hs⟩ : ∃ z, z = rNr s4 4 := ⟨_, rfl⟩
  rw [← he]
  rw [← hs] at h2
  have HE5 := Lib.hid he
  have HS5 := Lib.hid hs
  have hxr := HX4.out.turnW t2 hxg
  have c5 := hxr.1.2 5 _ rfl
  have f5 := hxr.2 5 (by simp [PK.cells])
  have k5 := hxr.1.1
  have P := h2.put hxr hxg hB 5 (.int .i64 e5) (by simp [PK.cells])
  have HD5 := Lib.hid P.1
  have HX5 := Lib.hid (show Row (v5.setCell ⟨x, 5, none⟩ (.int .i64 e5)) x (({ q with op := e1, errno := e2, ino := e3, wrote := e4, at_ := e5 } : PK).cells nv) from P.2.1)
  have HT5 := Lib.hid ((HT4.out.and (t2.mono fun _ e => .inl e)).and (P.2.2.mono fun _ e => .inr e))
  have hg5 : g < v5.heap.size := Nat.lt_of_lt_of_le (show g < (v4.setCell ⟨x, 27, none⟩ (.int .i64 e4)).heap.size by simpa using hg4) t2.size
  clear P hxr h2 t2 he hs HX4 HD4 HT4
  go_wp2_with fail
  refine (rd_number HD5.out 1 (by decide) 1 rfl).mono ?_
  rintro e v6 ⟨rfl, bv6, h2, t2⟩
  obtain ⟨e6, he⟩ : ∃ z, z = rN s5 1 := ⟨_, rfl⟩
  obtain ⟨s6, hs⟩ : ∃ z, z = rNr s5 1 := ⟨_, rfl⟩
  rw [← he]
  rw [← hs] at h2
  have HE6 := Lib.hid he
  have HS6 := Lib.hid hs
  have hxr := HX5.out.turnW t2 hxg
  have c24 := hxr.1.2 24 _ rfl
  have f24 := hxr.2 24 (by simp [PK.cells])
  have k24 := hxr.1.1
  have P := h2.put hxr hxg hB 24 (.int .i64 e6) (by simp [PK.cells])
  have HD6 := Lib.hid P.1
  have HX6 := Lib.hid (show Row (v6.setCell ⟨x, 24, none⟩ (.int .i64 e6)) x (({ q with op := e1, errno := e2, ino := e3, wrote := e4, at_ := e5, ikind := e6 } : PK).cells nv) from P.2.1)
  have HT6 := Lib.hid ((HT5.out.and (t2.mono fun _ e => .inl e)).and (P.2.2.mono fun _ e => .inr e))
  have hg6 : g < v6.heap.size := Nat.lt_of_lt_of_le (show g < (v5.setCell ⟨x, 5, none⟩ (.int .i64 e5)).heap.size by simpa using hg5) t2.size
  clear P hxr h2 t2 he hs HX5 HD5 HT5
  go_wp2_with fail
  refine (rd_number HD6.out 1 (by decide) 1 rfl).mono ?_
  rintro e v7 ⟨rfl, bv7, h2, t2⟩
  obtain ⟨e7, he⟩ : ∃ z, z = rN s6 1 := ⟨_, rfl⟩
  obtain ⟨s7, hs⟩ : ∃ z, z = rNr s6 1 := ⟨_, rfl⟩
  rw [← he]
  rw [← hs] at h2
  have HE7 := Lib.hid he
  have HS7 := Lib.hid hs
  have hxr := HX6.out.turnW t2 hxg
  have c25 := hxr.1.2 25 _ rfl
  have f25 := hxr.2 25 (by simp [PK.cells])
  have k25 := hxr.1.1
  have P := h2.put hxr hxg hB 25 (.int .i64 e7) (by simp [PK.cells])
  have HD7 := Lib.hid P.1
  have HX7 := Lib.hid (show Row (v7.setCell ⟨x, 25, none⟩ (.int .i64 e7)) x (({ q with op := e1, errno := e2, ino := e3, wrote := e4, at_ := e5, ikind := e6, ilinks := e7 } : PK).cells nv) from P.2.1)
  have HT7 := Lib.hid ((HT6.out.and (t2.mono fun _ e => .inl e)).and (P.2.2.mono fun _ e => .inr e))
  have hg7 : g < v7.heap.size := Nat.lt_of_lt_of_le (show g < (v6.setCell ⟨x, 24, none⟩ (.int .i64 e6)).heap.size by simpa using hg6) t2.size
  clear P hxr h2 t2 he hs HX6 HD6 HT6
  go_wp2_with fail
  refine (rd_number HD7.out 2 (by decide) 2 rfl).mono ?_
  rintro e v8 ⟨rfl, bv8, h2, t2⟩
  obtain ⟨e8, he⟩ : ∃ z, z = rN s7 2 := ⟨_, rfl⟩
  obtain ⟨s8, hs⟩ : ∃ z, z = rNr s7 2 := ⟨_, rfl⟩
  rw [← he]
  rw [← hs] at h2
  have HE8 := Lib.hid he
  have HS8 := Lib.hid hs
  have hxr := HX7.out.turnW t2 hxg
  have c26 := hxr.1.2 26 _ rfl
  have f26 := hxr.2 26 (by simp [PK.cells])
  have k26 := hxr.1.1
  have P := h2.put hxr hxg hB 26 (.int .i64 e8) (by simp [PK.cells])
  have HD8 := Lib.hid P.1
  have HX8 := Lib.hid (show Row (v8.setCell ⟨x, 26, none⟩ (.int .i64 e8)) x (({ q with op := e1, errno := e2, ino := e3, wrote := e4, at_ := e5, ikind := e6, ilinks := e7, isize := e8 } : PK).cells nv) from P.2.1)
  have HT8 := Lib.hid ((HT7.out.and (t2.mono fun _ e => .inl e)).and (P.2.2.mono fun _ e => .inr e))
  have hg8 : g < v8.heap.size := Nat.lt_of_lt_of_le (show g < (v7.setCell ⟨x, 25, none⟩ (.int .i64 e7)).heap.size by simpa using hg7) t2.size
  clear P hxr h2 t2 he hs HX7 HD7 HT7
  go_wp2_with fail
  refine (rd_number HD8.out 1 (by decide) 1 rfl).mono ?_
  rintro e v9 ⟨rfl, bv9, h2, t2⟩
  obtain ⟨e9, he⟩ : ∃ z, z = rN s8 1 := ⟨_, rfl⟩
  obtain ⟨s9, hs⟩ : ∃ z, z = rNr s8 1 := ⟨_, rfl⟩
  rw [← he]
  rw [← hs] at h2
  have HE9 := Lib.hid he
  have HS9 := Lib.hid hs
  have hxr := HX8.out.turnW t2 hxg
  have c28 := hxr.1.2 28 _ rfl
  have f28 := hxr.2 28 (by simp [PK.cells])
  have k28 := hxr.1.1
  have P := h2.put hxr hxg hB 28 (.int .i64 e9) (by simp [PK.cells])
  have HD9 := Lib.hid P.1
  have HX9 := Lib.hid (show Row (v9.setCell ⟨x, 28, none⟩ (.int .i64 e9)) x (({ q with op := e1, errno := e2, ino := e3, wrote := e4, at_ := e5, ikind := e6, ilinks := e7, isize := e8, nkind := e9 } : PK).cells nv) from P.2.1)
  have HT9 := Lib.hid ((HT8.out.and (t2.mono fun _ e => .inl e)).and (P.2.2.mono fun _ e => .inr e))
  have hg9 : g < v9.heap.size := Nat.lt_of_lt_of_le (show g < (v8.setCell ⟨x, 26, none⟩ (.int .i64 e8)).heap.size by simpa using hg8) t2.size
  clear P hxr h2 t2 he hs HX8 HD8 HT8
  go_wp2_with fail
  refine (rd_number HD9.out 1 (by decide) 1 rfl).mono ?_
  rintro e v10 ⟨rfl, bv10, h2, t2⟩
  obtain ⟨e10, he⟩ : ∃ z, z = rN s9 1 := ⟨_, rfl⟩
  obtain ⟨s10, hs⟩ : ∃ z, z = rNr s9 1 := ⟨_, rfl⟩
  rw [← he]
  rw [← hs] at h2
  have HE10 := Lib.hid he
  have HS10 := Lib.hid hs
  have hxr := HX9.out.turnW t2 hxg
  have c29 := hxr.1.2 29 _ rfl
  have f29 := hxr.2 29 (by simp [PK.cells])
  have k29 := hxr.1.1
  have P := h2.put hxr hxg hB 29 (.int .i64 e10) (by simp [PK.cells])
  have HD10 := Lib.hid P.1
  have HX10 := Lib.hid (show Row (v10.setCell ⟨x, 29, none⟩ (.int .i64 e10)) x (({ q with op := e1, errno := e2, ino := e3, wrote := e4, at_ := e5, ikind := e6, ilinks := e7, isize := e8, nkind := e9, nlinks := e10 } : PK).cells nv) from P.2.1)
  have HT10 := Lib.hid ((HT9.out.and (t2.mono fun _ e => .inl e)).and (P.2.2.mono fun _ e => .inr e))
  have hg10 : g < v10.heap.size := Nat.lt_of_lt_of_le (show g < (v9.setCell ⟨x, 28, none⟩ (.int .i64 e9)).heap.size by simpa using hg9) t2.size
  clear P hxr h2 t2 he hs HX9 HD9 HT9
  go_wp2_with fail
  refine (rd_number HD10.out 2 (by decide) 2 rfl).mono ?_
  rintro e v11 ⟨rfl, bv11, h2, t2⟩
  obtain ⟨e11, he⟩ : ∃ z, z = rN s10 2 := ⟨_, rfl⟩
  obtain ⟨s11, hs⟩ : ∃ z, z = rNr s10 2 := ⟨_, rfl⟩
  rw [← he]
  rw [← hs] at h2
  have HE11 := Lib.hid he
  have HS11 := Lib.hid hs
  have hxr := HX10.out.turnW t2 hxg
  have c30 := hxr.1.2 30 _ rfl
  have f30 := hxr.2 30 (by simp [PK.cells])
  have k30 := hxr.1.1
  have P := h2.put hxr hxg hB 30 (.int .i64 e11) (by simp [PK.cells])
  have HD11 := Lib.hid P.1
  have HX11 := Lib.hid (show Row (v11.setCell ⟨x, 30, none⟩ (.int .i64 e11)) x (({ q with op := e1, errno := e2, ino := e3, wrote := e4, at_ := e5, ikind := e6, ilinks := e7, isize := e8, nkind := e9, nlinks := e10, nsize := e11 } : PK).cells nv) from P.2.1)
  have HT11 := Lib.hid ((HT10.out.and (t2.mono fun _ e => .inl e)).and (P.2.2.mono fun _ e => .inr e))
  have hg11 : g < v11.heap.size := Nat.lt_of_lt_of_le (show g < (v10.setCell ⟨x, 29, none⟩ (.int .i64 e10)).heap.size by simpa using hg10) t2.size
  clear P hxr h2 t2 he hs HX10 HD10 HT10
  obtain ⟨q11, hq11⟩ : ∃ z : PK, z = { q with op := e1, errno := e2, ino := e3, wrote := e4, at_ := e5, ikind := e6, ilinks := e7, isize := e8, nkind := e9, nlinks := e10, nsize := e11 } := ⟨_, rfl⟩
  rw [← hq11] at HX11
  have HQ11 := Lib.hid hq11
  clear hq11
  go_wp2_with fail
  obtain ⟨wz, hwz⟩ : ∃ z, z = v11.setCell ⟨x, 30, none⟩ (.int .i64 e11) := ⟨_, rfl⟩
  rw [← hwz] at HD11 HX11 HT11 ⊢
  clear hwz
  go_loopw [71] (fun i wr => BlInv w wr g x B q11 s11 nv i) (fun i _ => 4 - (intOf i).toNat)
  case atStart => exact ⟨0, rfl, by decide, _, HD11.out, HX11.out, HT11.out⟩
  case round =>
    obtain ⟨k, rfl, hk, bvk, hd, hxk, ht⟩ := hrel
    by_cases hlt : k < 4
    · have HDK := Lib.hid hd
      have HXK := Lib.hid hxk
      have HTK := Lib.hid ht
      have hk31 : 31 + k < ((pkB q11 s11 k).cells nv).length := by show 31 + k < 43; omega
      clear hd hxk ht
      have z4 : decide ((k : Int) < 4) = true := decide_eq_true (by omega)
      go_wp2_with fail
      have hTr : True := trivial
      refine wp_region_held_drew (S := fun _ => True) (by kernel_rfl) trivial (fun hHeld => ?_)
      refine wpAnyH_take (i := 0) (oi := _) (v := ?_) rfl (by kernel_rfl) (by kernel_rfl) (by kernel_rfl) (fun _ _ _ h => h) (Or.inl ⟨by rfl, ?_⟩) (by assumption) ?_
      rotate_left
      · (intro w hSw; (try dsimp only at hSw); go_simp; (try with_reducible rfl))
      simp only [Act.put, List.setIfInBounds_toArray]
      refine wpAnyH_take (i := 1) (oi := _) (v := ?_) rfl (by kernel_rfl) (by kernel_rfl) (by kernel_rfl) (fun _ _ _ h => h) (Or.inl ⟨by rfl, ?_⟩) (by assumption) ?_
      rotate_left
      · (intro w hSw; (try dsimp only at hSw); go_simp; (try with_reducible rfl))
      simp only [Act.put]
      refine wpAnyH_take (i := 2) (oi := _) (v := ?_) rfl (by kernel_rfl) (by kernel_rfl) (by kernel_rfl) (fun _ _ _ h => h) (Or.inl ⟨by rfl, ?_⟩) (by assumption) ?_
      rotate_left
      · (intro w hSw; (try dsimp only at hSw); go_simp; (try with_reducible rfl))
      simp only [Act.put]
      refine wpAnyH_take (i := 4) (oi := _) (v := ?_) rfl (by kernel_rfl) (by kernel_rfl) (by kernel_rfl) (fun _ _ _ h => h) (Or.inl ⟨by rfl, ?_⟩) (by assumption) ?_
      rotate_left
      · (intro w hSw; (try dsimp only at hSw); go_simp; (try with_reducible rfl))
      simp only [Act.put]
      refine wpAnyH_take (i := 5) (oi := _) (v := ?_) rfl (by kernel_rfl) (by kernel_rfl) (by kernel_rfl) (fun _ _ _ h => h) (Or.inl ⟨by rfl, ?_⟩) (by assumption) ?_
      rotate_left
      · (intro w hSw; (try dsimp only at hSw); go_simp; (try with_reducible rfl))
      simp only [Act.put]
      refine wpAnyH_take (i := 6) (oi := _) (v := ?_) rfl (by kernel_rfl) (by kernel_rfl) (by kernel_rfl) (fun _ _ _ h => h) (Or.inl ⟨by rfl, ?_⟩) (by assumption) ?_
      rotate_left
      · (intro w hSw; (try dsimp only at hSw); go_simp; (try with_reducible rfl))
      simp only [Act.put]
      refine wpAnyH_ready (rs := [3]) (by kernel_rfl) (by simp) ?_
      refine AllReadyH.cons (o := _) rfl (fun K hK => ?_) AllReadyH.nil
      go_simp
      refine (rd_number (HDK.out.keep ?_) 1 (by decide) 1 rfl).mono ?_; (repeat (first | exact Grow.refl _ | refine Grow.drew ?_ | refine Grow.drewN ?_ _)); rintro e w5 ⟨rfl, bv5, h5, t5⟩
      refine hK.out _ _ trivial (fun hHeld2 => ?_)
      clear hK K
      refine wpAnyH_take (i := 7) (oi := _) (v := .pointer (some ⟨x, 31 + k, none⟩)) rfl (by kernel_rfl) (by kernel_rfl) (by kernel_rfl) (fun _ _ _ h => h) (Or.inl ⟨by rfl, ?_⟩) (by assumption) ?_
      · (intro w hSw; (try dsimp only at hSw); go_simp; first | done | (intro hh; exfalso; omega))
      simp only [Act.put]
      have hxr := (HXK.out.keep (show Grow wr _ from Grow.drew (Grow.refl _))).turnW t5 hxg
      have hu := hxr.1.2 (31 + k) _ (List.getElem?_eq_getElem hk31)
      have hf := hxr.2 (31 + k) hk31
      have hl := hxr.1.1
      have P := h5.put hxr hxg hB (31 + k) (.int .i64 (rN (stB s11 k) 1)) hk31
      rw [setB_cells hlt] at P
      have HPP := Lib.hid P
      clear P
      refine wpAnyH_ready (rs := [8]) (by kernel_rfl) (by simp) ?_
      refine AllReadyH.cons (o := _) rfl (fun K hK => ?_) AllReadyH.nil
      go_simp
      refine hK.out _ _ trivial (fun hHeld5 => ?_)
      clear hK K
      refine wpAnyH_done (by kernel_rfl) ?_ _
      have X : BlInv w (w5.setCell ⟨x, 31 + k, none⟩ (.int .i64 (rN (stB s11 k) 1))) g x B q11 s11 nv (.int .i64 ((k : Int) + 1)) := ⟨k + 1, by simp, hlt, bv5, HPP.out.1, HPP.out.2.1, (HTK.out.and (((Turn.grow (show Grow wr _ from Grow.drew (Grow.refl _)) _).and t5).mono fun _ e => .inl e)).and (HPP.out.2.2.mono fun _ e => .inr e)⟩
      have HX := Lib.hid X
      clear X h5 t5 hxr hu hf hl
      go_wp2_with fail
      go_roundw
      have e5 : wrap64 ((k : Int) + 1) = (k : Int) + 1 := IntWalk.wrap64_in _ (by omega)
      case rel => (try rw [e5]); first | exact HX.out | ((repeat apply Exists.intro); exact HX.out) | ((repeat apply Exists.intro); refine ⟨HX.out, ?_⟩; rfl)
      case measure => (have e5 : wrap64 ((k : Int) + 1) = (k : Int) + 1 := IntWalk.wrap64_in _ (by omega)); first | exact measV hlt | (rw [e5]; exact measV hlt)
    · obtain rfl : k = 4 := by omega
      have HD12 := Lib.hid hd
      have HX12 := Lib.hid hxk
      have HT12 := Lib.hid ht
      obtain ⟨s15, hs15⟩ : ∃ s, s = stB s11 4 := ⟨_, rfl⟩
      obtain ⟨q15, hq15⟩ : ∃ q, q = pkB q11 s11 4 := ⟨_, rfl⟩
      rw [← hs15] at HD12
      rw [← hq15] at HX12
      have HS15 := Lib.hid hs15
      have HQ15 := Lib.hid hq15
      clear hd hxk ht hs15 hq15
      go_wp2_with fail
      refine (rd_number HD12.out 1 (by decide) 1 rfl).mono ?_
      rintro e w6 ⟨rfl, bv6, h6, t6⟩
      obtain ⟨m, hm⟩ : ∃ m : Nat, rN s15 1 = (m : Int) := ⟨(rN s15 1).toNat, by have := rN_range s15 1; omega⟩
      have hm9 : (m : Int) ≤ 9223372036854775807 := by have := rN_range s15 1; omega
      rw [hm]
      have HM := Lib.hid hm
      have HD6 := Lib.hid h6
      have HX6 := Lib.hid (HX12.out.turnW t6 hxg)
      have HT6 := Lib.hid (HT12.out.and (t6.mono fun _ e => .inl e))
      clear h6 t6 hm HD12 HX12 HT12
      obtain ⟨s16, hs16⟩ : ∃ z, z = rNr s15 1 := ⟨_, rfl⟩
      rw [← hs16] at HD6
      have HS16 := Lib.hid hs16
      clear hs16
      go_upto_region 17 with (fail)
      go_cut [0] (fun v wx => v = .pointer (some ⟨g, 0, none⟩) ∧ ∃ bv', DS wx g B bv' (gd (decide ((m : Int) ≤ 16)) s16) ∧ Row wx x (q15.cells nv) ∧ Turn (fun k => k = g ∨ k = x) w wx)
      case first =>
        obtain ⟨d0, d1⟩ := HD6.out.blk.1.c2
        have hf1 := HD6.out.blk.2 1 (by simp)
        have hl1 := HD6.out.blk.1.1
        obtain ⟨fl, hfl⟩ : ∃ z, z = s16.isNone := ⟨_, rfl⟩
        rw [← hfl] at d1
        have HFL := Lib.hid hfl
        clear hfl
        cases fl with
        | true =>
          have HY := Lib.hid (HD6.out.flag (decide ((m : Int) ≤ 16)) true (by rw [gd_isNone, ← HFL.out]; rfl))
          go_wp2_with fail
          go_meet
          exact ⟨rfl, _, HY.out.1, HX6.out.turnW HY.out.2 hxg, HT6.out.and (HY.out.2.mono fun _ e => .inl e)⟩
        | false =>
          by_cases hm16 : 16 < m
          · have HY := Lib.hid (HD6.out.flag (decide ((m : Int) ≤ 16)) true (by rw [gd_isNone, ← HFL.out, decide_eq_false (by omega)]; rfl))
            have z1 : decide (16 < m) = true := decide_eq_true hm16
            have z2 : decide ((16 : Int) < (m : Int)) = true := decide_eq_true (by omega)
            go_wp2_with fail
            go_meet
            exact ⟨rfl, _, HY.out.1, HX6.out.turnW HY.out.2 hxg, HT6.out.and (HY.out.2.mono fun _ e => .inl e)⟩
          · have HY := Lib.hid (HD6.out.flag (decide ((m : Int) ≤ 16)) false (by rw [gd_isNone, ← HFL.out, decide_eq_true (by omega)]; rfl))
            have z1 : decide (16 < m) = false := decide_eq_false hm16
            have z2 : decide ((16 : Int) < (m : Int)) = false := decide_eq_false (by omega)
            go_wp2_with fail
            go_meet
            exact ⟨rfl, _, HY.out.1, HX6.out.turnW HY.out.2 hxg, HT6.out.and (HY.out.2.mono fun _ e => .inl e)⟩
      case rest =>
        obtain ⟨rfl, bv7, h7, hx7, ht7⟩ := hcut
        obtain ⟨o17, ho17⟩ : ∃ z, z = gd (decide ((m : Int) ≤ 16)) s16 := ⟨_, rfl⟩
        rw [← ho17] at h7
        have HO17 := Lib.hid ho17
        have HD7 := Lib.hid h7
        have HX7 := Lib.hid hx7
        have HT7 := Lib.hid ht7
        clear h7 hx7 ht7 HD6 HX6 HT6 ho17
        have HEND : ∀ k, k ≤ m → (∀ j, j < k → (stN o17 j).isSome = true) → (k = m ∨ stN o17 k = none) → rRTold true q o = ({ q15 with names := nmN o17 k }, stN o17 k) := by
          intro k h1 h2 h3
          have hz := names_end o17 m k h1 h2 h3
          have h15 : rNr (rNr (rNr (rNr s11 1) 1) 1) 1 = s15 := HS15.out.symm
          unfold rRTold
          simp only
          rw [← HS0.out, ← HE1.out, ← HS1.out, ← HE2.out, ← HS2.out, ← HE3.out, ← HS3.out, ← HE4.out, ← HS4.out, ← HE5.out, ← HS5.out, ← HE6.out, ← HS6.out, ← HE7.out, ← HS7.out, ← HE8.out, ← HS8.out, ← HE9.out, ← HS9.out, ← HE10.out, ← HS10.out, ← HE11.out, ← HS11.out, h15, HM.out, ← HS16.out]
          rw [show gd (!true || decide ((m : Int) ≤ 16)) s16 = o17 from HO17.out.symm, Int.toNat_natCast, hz, HQ15.out, HQ11.out]
          rfl
        have HEN := Lib.hid HEND
        clear HEND
        go_wp2_with fail
        go_loopw [6] (fun i wr => NaInv w wr g x B q15 o17 m i) (fun i _ => 17 - (intOf i).toNat)
        case atStart => exact ⟨0, bv7, nv, rfl, Nat.zero_le _, by decide, fun j hj => absurd hj (Nat.not_lt_zero j), HD7.out, HX7.out, by rw [HNV.out]; exact World.ownsRow_nil _ _ _ _, HT7.out⟩
        case round =>
          obtain ⟨k, bvk, nvk, rfl, hk, hk16, hj, hd, hxk, hos, ht⟩ := hrel
          have HDK := Lib.hid hd
          have HXK := Lib.hid hxk
          have HOK := Lib.hid hos
          have HTK := Lib.hid ht
          have HJ := Lib.hid hj
          obtain ⟨d0, d1⟩ := hd.blk.1.c2
          have c23 := hxk.1.2 23 _ rfl
          clear hd hxk hos ht hj
          by_cases hlt : k < m
          · have z4 : decide ((k : Int) < (m : Int)) = true := decide_eq_true (by omega)
            have z5 : decide (k < m) = true := decide_eq_true hlt
            cases hst : stN o17 k with
            | none =>
              have HFIN := Lib.hid (show ∃ nv, MDone w wr g x B (rRTold true q o) nv ∧ ((rRTold true q o).2.isSome = true → OS wr w.heap.size nv (rRTold true q o).1.names) by
                rw [HEN.out k hk HJ.out (.inr hst)]
                exact ⟨nvk, ⟨bvk, HDK.out, HXK.out, HTK.out⟩, fun _ => HOK.out⟩)
              rw [hst] at d1
              have d1' : wr.cell? ⟨g, 1, none⟩ = some (.bool true) := d1
              clear d1 hst
              go_wp2_with fail
              go_end0
              exact ⟨rfl, HFIN.out⟩
            | some b =>
              have d1' : wr.cell? ⟨g, 1, none⟩ = some (.bool false) := by rw [hst] at d1; exact d1
              have hm16 : m ≤ 16 := by
                have h0 : (stN o17 0).isSome = true := by
                  cases k with
                  | zero => rw [hst]; rfl
                  | succ k => exact HJ.out 0 (by omega)
                have h1 : o17.isSome = true := h0
                obtain ⟨y, hy⟩ := Option.isSome_iff_exists.1 h1
                rw [HO17.out] at hy
                have := of_decide_eq_true (gd_some hy).1
                omega
              have HSM := Lib.hid (show (stN o17 k).isSome = true by rw [hst]; rfl)
              have HLN := Lib.hid (nmN_length o17 k)
              have hk17 : k < 17 := by omega
              have hzk := HTK.out.size
              clear d1 hst
              go_wp2_with fail
              refine wp_region_held_drew (S := fun _ => True) (by kernel_rfl) trivial (fun hHeld => ?_)
              refine wpAnyH_take (i := 0) (oi := _) (v := ?_) rfl (by kernel_rfl) (by kernel_rfl) (by kernel_rfl) (fun _ _ _ h => h) (Or.inl ⟨by rfl, ?_⟩) (by assumption) ?_
              rotate_left
              · (intro w hSw; (try dsimp only at hSw); go_simp; (try with_reducible rfl))
              simp only [Act.put, List.setIfInBounds_toArray]
              refine wpAnyH_take (i := 1) (oi := _) (v := ?_) rfl (by kernel_rfl) (by kernel_rfl) (by kernel_rfl) (fun _ _ _ h => h) (Or.inl ⟨by rfl, ?_⟩) (by assumption) ?_
              rotate_left
              · (intro w hSw; (try dsimp only at hSw); go_simp; (try with_reducible rfl))
              simp only [Act.put]
              refine wpAnyH_take (i := 2) (oi := _) (v := ?_) rfl (by kernel_rfl) (by kernel_rfl) (by kernel_rfl) (fun _ _ _ h => h) (Or.inl ⟨by rfl, ?_⟩) (by assumption) ?_
              rotate_left
              · (intro w hSw; (try dsimp only at hSw); go_simp; (try with_reducible rfl))
              simp only [Act.put]
              refine wpAnyH_take (i := 3) (oi := _) (v := ?_) rfl (by kernel_rfl) (by kernel_rfl) (by kernel_rfl) (fun _ _ _ h => h) (Or.inl ⟨by rfl, ?_⟩) (by assumption) ?_
              rotate_left
              · (intro w hSw; (try dsimp only at hSw); go_simp; (try with_reducible rfl))
              simp only [Act.put]
              refine wpAnyH_take (i := 4) (oi := _) (v := ?_) rfl (by kernel_rfl) (by kernel_rfl) (by kernel_rfl) (fun _ _ _ h => h) (Or.inl ⟨by rfl, ?_⟩) (by assumption) ?_
              rotate_left
              · (intro w hSw; (try dsimp only at hSw); go_simp; (try with_reducible rfl))
              simp only [Act.put]
              refine wpAnyH_take (i := 6) (oi := _) (v := ?_) rfl (by kernel_rfl) (by kernel_rfl) (by kernel_rfl) (fun _ _ _ h => h) (Or.inl ⟨by rfl, ?_⟩) (by assumption) ?_
              rotate_left
              · (intro w hSw; (try dsimp only at hSw); go_simp; (try with_reducible rfl))
              simp only [Act.put]
              refine wpAnyH_ready (rs := [5, 7]) (by kernel_rfl) (by simp) ?_
              refine AllReadyH.cons (o := _) rfl (fun K hK => ?_) (AllReadyH.cons (o := _) rfl (fun K hK => ?_) AllReadyH.nil)
              · go_simp
                refine hK.out _ _ trivial (fun hHeld6 => ?_)
                clear hK K
                refine wpAnyH_ready (rs := [7]) (by kernel_rfl) (by simp) ?_
                refine AllReadyH.cons (o := _) rfl (fun K hK => ?_) AllReadyH.nil
                go_simp
                refine (rd_text (HDK.out.keep ?_) 1 (by decide) 1 rfl 12).mono ?_; (repeat (first | exact Grow.refl _ | refine Grow.drew ?_ | refine Grow.drewN ?_ _ | refine Grow.alloc ?_ _)); rintro e w5 ⟨rfl, bv5, h5, t5⟩
                have t5' : Turn (fun k => k = g) wr w5 := (Turn.grow (show Grow wr _ by (repeat (first | exact Grow.refl _ | refine Grow.drew ?_ | refine Grow.drewN ?_ _ | refine Grow.alloc ?_ _))) _).and t5
                have HT5 := Lib.hid t5'
                have HD5 := Lib.hid h5
                have HX5 := Lib.hid (HXK.out.turnW t5' hxg)
                have HOB := Lib.hid (show ∀ i, nvk.ownBlock = some i → w.heap.size ≤ i from fun i e => (World.ownsRow.lt HOK.out i e).1)
                have HO5 := Lib.hid (show OS w5 w.heap.size nvk (nmN o17 k) from row_turnW HOK.out t5' fun i e q => by have := HOB.out i e; have q' : i = g := q; omega)
                have HOX := Lib.hid (show (¬ nvk.ownBlock = some x) ∧ (¬ nvk.ownBlock = some g) ∧ (∀ i, nvk.ownBlock = some i → B ≤ i) from ⟨fun e => by have := HOB.out x e; omega, fun e => by have := HOB.out g e; omega, fun i e => by have := HOB.out i e; omega⟩)
                have HOX2 := HOB
                have HZ5 := Lib.hid (show w.heap.size ≤ w5.heap.size by have := t5'.size; omega)
                have c5 := HX5.out.1.2 23 _ rfl
                have c6 := ((Grow.refl w5).alloc (.cells #[.string (rTs (stN o17 k) 1 12)] 9)).cell c5
                clear h5 t5 t5'
                refine hK.out _ _ trivial (fun hHeld5 => ?_)
                clear hK K
                refine wpAnyH_ready (rs := [8]) (by kernel_rfl) (by simp) ?_
                refine AllReadyH.cons (o := _) rfl (fun K hK => ?_) AllReadyH.nil
                go_simp
                refine hK.out _ _ trivial (fun hHeld6 => ?_)
                clear hK K
                refine wpAnyH_ready (rs := [9]) (by kernel_rfl) (by simp) ?_
                refine AllReadyH.cons (o := _) rfl (fun K hK => ?_) AllReadyH.nil
                refine step_appS rfl (.tmp 113) (.tmp 116) rfl w.heap.size nvk (nmN o17 k) (by first | rfl | simp) (rTs (stN o17 k) 1 12) _ (some ⟨w5.heap.size, 0, none⟩) (by first | rfl | simp) (Rd.litS (w := w5) _ (by (repeat (first | exact Grow.refl _ | refine Grow.drew ?_ | refine Grow.drewN ?_ _ | refine Grow.alloc ?_ _)))) (HO5.out.keep (by (repeat (first | exact Grow.refl _ | refine Grow.drew ?_ | refine Grow.drewN ?_ _ | refine Grow.alloc ?_ _)))) (by rw [HLN.out]; omega) (by have := HZ5.out; first | omega | (simp; omega)) ?_
                intro v8 w8 q1 q2 q3
                obtain ⟨A8, c8, e8, -⟩ := own_form q1
                rw [List.length_append, HLN.out] at e8
                replace e8 : v8 = .slice A8 (k + 1) c8 := e8
                subst e8
                have T8 : Turn (fun i => nvk.ownBlock = some i) w5 w8 := (Turn.grow (show Grow w5 _ by (repeat (first | exact Grow.refl _ | refine Grow.drew ?_ | refine Grow.drewN ?_ _ | refine Grow.alloc ?_ _))) _).and (Turn.grown q2 (fun _ h => h))
                have hx8 := HX5.out.turnW T8 HOX.out.1
                have hd8 := HD5.out.turn T8 HOX.out.2.1 HOX.out.2.2
                have P := hd8.put hx8 hxg hB 23 (.slice A8 (k + 1) c8) (by simp [PK.cells])
                have hv8 : ∀ i, (Value.slice A8 (k + 1) c8).ownBlock = some i → w.heap.size ≤ i := fun i e => (World.ownsRow.lt q1 i e).1
                have X : NaInv w (w8.setCell ⟨x, 23, none⟩ (.slice A8 (k + 1) c8)) g x B q15 o17 m (.int .i64 ((k : Int) + 1)) := ⟨k + 1, bv5, .slice A8 (k + 1) c8, by simp, hlt, by omega, fun j hj => by
                    by_cases hjk : j < k
                    · exact HJ.out j hjk
                    · obtain rfl : j = k := by omega
                      exact HSM.out, P.1, P.2.1, row_turnW q1 P.2.2 (fun i e q => by have := hv8 i e; have q' : i = x := q; omega), ((HTK.out.and (HT5.out.mono fun _ e => .inl e)).trans T8 fun i e => .inr (HOX2.out i e)).and (P.2.2.mono fun _ e => .inr e)⟩
                have HX := Lib.hid X
                have c23' := hx8.1.2 23 _ rfl
                have f23' := hx8.2 23 (by simp [PK.cells])
                have l23' := hx8.1.1
                clear X P q1 q2 q3 T8 hd8 hv8 hx8
                refine hK.out _ _ trivial (fun hHeld9 => ?_)
                clear hK K
                refine wpAnyH_take (i := 10) (oi := _) (v := ?_) rfl (by kernel_rfl) (by kernel_rfl) (by kernel_rfl) (fun _ _ _ h => h) (Or.inl ⟨by rfl, ?_⟩) (by assumption) ?_
                rotate_left
                · (intro w hSw; (try dsimp only at hSw); go_simp; (try with_reducible rfl))
                simp only [Act.put]
                refine wpAnyH_take (i := 11) (oi := _) (v := ?_) rfl (by kernel_rfl) (by kernel_rfl) (by kernel_rfl) (fun _ _ _ h => h) (Or.inl ⟨by rfl, ?_⟩) (by assumption) ?_
                rotate_left
                · (intro w hSw; (try dsimp only at hSw); go_simp; (try with_reducible rfl))
                simp only [Act.put]
                refine wpAnyH_take (i := 12) (oi := _) (v := ?_) rfl (by kernel_rfl) (by kernel_rfl) (by kernel_rfl) (fun _ _ _ h => h) (Or.inl ⟨by rfl, ?_⟩) (by assumption) ?_
                rotate_left
                · (intro w hSw; (try dsimp only at hSw); go_simp; (try with_reducible rfl))
                simp only [Act.put]
                refine wpAnyH_ready (rs := [13]) (by kernel_rfl) (by simp) ?_
                refine AllReadyH.cons (o := _) rfl (fun K hK => ?_) AllReadyH.nil
                go_simp
                refine hK.out _ _ trivial (fun hHeld10 => ?_)
                clear hK K
                refine wpAnyH_done (by kernel_rfl) ?_ _
                clear c23 c23' f23' l23' d0
                go_wp2_with fail
                go_roundw
                have e5 : wrap64 ((k : Int) + 1) = (k : Int) + 1 := IntWalk.wrap64_in _ (by omega)
                case rel => (try rw [e5]); first | exact HX.out | ((repeat apply Exists.intro); exact HX.out) | ((repeat apply Exists.intro); refine ⟨HX.out, ?_⟩; rfl)
                case measure => (have e5 : wrap64 ((k : Int) + 1) = (k : Int) + 1 := IntWalk.wrap64_in _ (by omega)); first | exact measV hk17 | (rw [e5]; exact measV hk17)
              · go_simp
                refine (rd_text (HDK.out.keep ?_) 1 (by decide) 1 rfl 12).mono ?_; (repeat (first | exact Grow.refl _ | refine Grow.drew ?_ | refine Grow.drewN ?_ _ | refine Grow.alloc ?_ _)); rintro e w5 ⟨rfl, bv5, h5, t5⟩
                have t5' : Turn (fun k => k = g) wr w5 := (Turn.grow (show Grow wr _ by (repeat (first | exact Grow.refl _ | refine Grow.drew ?_ | refine Grow.drewN ?_ _ | refine Grow.alloc ?_ _))) _).and t5
                have HT5 := Lib.hid t5'
                have HD5 := Lib.hid h5
                have HX5 := Lib.hid (HXK.out.turnW t5' hxg)
                have HOB := Lib.hid (show ∀ i, nvk.ownBlock = some i → w.heap.size ≤ i from fun i e => (World.ownsRow.lt HOK.out i e).1)
                have HO5 := Lib.hid (show OS w5 w.heap.size nvk (nmN o17 k) from row_turnW HOK.out t5' fun i e q => by have := HOB.out i e; have q' : i = g := q; omega)
                have HOX := Lib.hid (show (¬ nvk.ownBlock = some x) ∧ (¬ nvk.ownBlock = some g) ∧ (∀ i, nvk.ownBlock = some i → B ≤ i) from ⟨fun e => by have := HOB.out x e; omega, fun e => by have := HOB.out g e; omega, fun i e => by have := HOB.out i e; omega⟩)
                have HOX2 := HOB
                have HZ5 := Lib.hid (show w.heap.size ≤ w5.heap.size by have := t5'.size; omega)
                have c5 := HX5.out.1.2 23 _ rfl
                have c6 := ((Grow.refl w5).alloc (.cells #[.string (rTs (stN o17 k) 1 12)] 9)).cell c5
                clear h5 t5 t5'
                refine hK.out _ _ trivial (fun hHeld5 => ?_)
                clear hK K
                refine wpAnyH_ready (rs := [5, 8]) (by kernel_rfl) (by simp) ?_
                refine AllReadyH.cons (o := _) rfl (fun K hK => ?_) (AllReadyH.cons (o := _) rfl (fun K hK => ?_) AllReadyH.nil)
                · go_simp
                  refine hK.out _ _ trivial (fun hHeld6 => ?_)
                  clear hK K
                  refine wpAnyH_ready (rs := [8]) (by kernel_rfl) (by simp) ?_
                  refine AllReadyH.cons (o := _) rfl (fun K hK => ?_) AllReadyH.nil
                  go_simp
                  refine hK.out _ _ trivial (fun hHeld6 => ?_)
                  clear hK K
                  refine wpAnyH_ready (rs := [9]) (by kernel_rfl) (by simp) ?_
                  refine AllReadyH.cons (o := _) rfl (fun K hK => ?_) AllReadyH.nil
                  refine step_appS rfl (.tmp 113) (.tmp 116) rfl w.heap.size nvk (nmN o17 k) (by first | rfl | simp) (rTs (stN o17 k) 1 12) _ (some ⟨w5.heap.size, 0, none⟩) (by first | rfl | simp) (Rd.litS (w := w5) _ (by (repeat (first | exact Grow.refl _ | refine Grow.drew ?_ | refine Grow.drewN ?_ _ | refine Grow.alloc ?_ _)))) (HO5.out.keep (by (repeat (first | exact Grow.refl _ | refine Grow.drew ?_ | refine Grow.drewN ?_ _ | refine Grow.alloc ?_ _)))) (by rw [HLN.out]; omega) (by have := HZ5.out; first | omega | (simp; omega)) ?_
                  intro v8 w8 q1 q2 q3
                  obtain ⟨A8, c8, e8, -⟩ := own_form q1
                  rw [List.length_append, HLN.out] at e8
                  replace e8 : v8 = .slice A8 (k + 1) c8 := e8
                  subst e8
                  have T8 : Turn (fun i => nvk.ownBlock = some i) w5 w8 := (Turn.grow (show Grow w5 _ by (repeat (first | exact Grow.refl _ | refine Grow.drew ?_ | refine Grow.drewN ?_ _ | refine Grow.alloc ?_ _))) _).and (Turn.grown q2 (fun _ h => h))
                  have hx8 := HX5.out.turnW T8 HOX.out.1
                  have hd8 := HD5.out.turn T8 HOX.out.2.1 HOX.out.2.2
                  have P := hd8.put hx8 hxg hB 23 (.slice A8 (k + 1) c8) (by simp [PK.cells])
                  have hv8 : ∀ i, (Value.slice A8 (k + 1) c8).ownBlock = some i → w.heap.size ≤ i := fun i e => (World.ownsRow.lt q1 i e).1
                  have X : NaInv w (w8.setCell ⟨x, 23, none⟩ (.slice A8 (k + 1) c8)) g x B q15 o17 m (.int .i64 ((k : Int) + 1)) := ⟨k + 1, bv5, .slice A8 (k + 1) c8, by simp, hlt, by omega, fun j hj => by
                      by_cases hjk : j < k
                      · exact HJ.out j hjk
                      · obtain rfl : j = k := by omega
                        exact HSM.out, P.1, P.2.1, row_turnW q1 P.2.2 (fun i e q => by have := hv8 i e; have q' : i = x := q; omega), ((HTK.out.and (HT5.out.mono fun _ e => .inl e)).trans T8 fun i e => .inr (HOX2.out i e)).and (P.2.2.mono fun _ e => .inr e)⟩
                  have HX := Lib.hid X
                  have c23' := hx8.1.2 23 _ rfl
                  have f23' := hx8.2 23 (by simp [PK.cells])
                  have l23' := hx8.1.1
                  clear X P q1 q2 q3 T8 hd8 hv8 hx8
                  refine hK.out _ _ trivial (fun hHeld9 => ?_)
                  clear hK K
                  refine wpAnyH_take (i := 10) (oi := _) (v := ?_) rfl (by kernel_rfl) (by kernel_rfl) (by kernel_rfl) (fun _ _ _ h => h) (Or.inl ⟨by rfl, ?_⟩) (by assumption) ?_
                  rotate_left
                  · (intro w hSw; (try dsimp only at hSw); go_simp; (try with_reducible rfl))
                  simp only [Act.put]
                  refine wpAnyH_take (i := 11) (oi := _) (v := ?_) rfl (by kernel_rfl) (by kernel_rfl) (by kernel_rfl) (fun _ _ _ h => h) (Or.inl ⟨by rfl, ?_⟩) (by assumption) ?_
                  rotate_left
                  · (intro w hSw; (try dsimp only at hSw); go_simp; (try with_reducible rfl))
                  simp only [Act.put]
                  refine wpAnyH_take (i := 12) (oi := _) (v := ?_) rfl (by kernel_rfl) (by kernel_rfl) (by kernel_rfl) (fun _ _ _ h => h) (Or.inl ⟨by rfl, ?_⟩) (by assumption) ?_
                  rotate_left
                  · (intro w hSw; (try dsimp only at hSw); go_simp; (try with_reducible rfl))
                  simp only [Act.put]
                  refine wpAnyH_ready (rs := [13]) (by kernel_rfl) (by simp) ?_
                  refine AllReadyH.cons (o := _) rfl (fun K hK => ?_) AllReadyH.nil
                  go_simp
                  refine hK.out _ _ trivial (fun hHeld10 => ?_)
                  clear hK K
                  refine wpAnyH_done (by kernel_rfl) ?_ _
                  clear c23 c23' f23' l23' d0
                  go_wp2_with fail
                  go_roundw
                  have e5 : wrap64 ((k : Int) + 1) = (k : Int) + 1 := IntWalk.wrap64_in _ (by omega)
                  case rel => (try rw [e5]); first | exact HX.out | ((repeat apply Exists.intro); exact HX.out) | ((repeat apply Exists.intro); refine ⟨HX.out, ?_⟩; rfl)
                  case measure => (have e5 : wrap64 ((k : Int) + 1) = (k : Int) + 1 := IntWalk.wrap64_in _ (by omega)); first | exact measV hk17 | (rw [e5]; exact measV hk17)
                · go_simp
                  refine hK.out _ _ trivial (fun hHeld6 => ?_)
                  clear hK K
                  refine wpAnyH_ready (rs := [5]) (by kernel_rfl) (by simp) ?_
                  refine AllReadyH.cons (o := _) rfl (fun K hK => ?_) AllReadyH.nil
                  go_simp
                  refine hK.out _ _ trivial (fun hHeld6 => ?_)
                  clear hK K
                  refine wpAnyH_ready (rs := [9]) (by kernel_rfl) (by simp) ?_
                  refine AllReadyH.cons (o := _) rfl (fun K hK => ?_) AllReadyH.nil
                  refine step_appS rfl (.tmp 113) (.tmp 116) rfl w.heap.size nvk (nmN o17 k) (by first | rfl | simp) (rTs (stN o17 k) 1 12) _ (some ⟨w5.heap.size, 0, none⟩) (by first | rfl | simp) (Rd.litS (w := w5) _ (by (repeat (first | exact Grow.refl _ | refine Grow.drew ?_ | refine Grow.drewN ?_ _ | refine Grow.alloc ?_ _)))) (HO5.out.keep (by (repeat (first | exact Grow.refl _ | refine Grow.drew ?_ | refine Grow.drewN ?_ _ | refine Grow.alloc ?_ _)))) (by rw [HLN.out]; omega) (by have := HZ5.out; first | omega | (simp; omega)) ?_
                  intro v8 w8 q1 q2 q3
                  obtain ⟨A8, c8, e8, -⟩ := own_form q1
                  rw [List.length_append, HLN.out] at e8
                  replace e8 : v8 = .slice A8 (k + 1) c8 := e8
                  subst e8
                  have T8 : Turn (fun i => nvk.ownBlock = some i) w5 w8 := (Turn.grow (show Grow w5 _ by (repeat (first | exact Grow.refl _ | refine Grow.drew ?_ | refine Grow.drewN ?_ _ | refine Grow.alloc ?_ _))) _).and (Turn.grown q2 (fun _ h => h))
                  have hx8 := HX5.out.turnW T8 HOX.out.1
                  have hd8 := HD5.out.turn T8 HOX.out.2.1 HOX.out.2.2
                  have P := hd8.put hx8 hxg hB 23 (.slice A8 (k + 1) c8) (by simp [PK.cells])
                  have hv8 : ∀ i, (Value.slice A8 (k + 1) c8).ownBlock = some i → w.heap.size ≤ i := fun i e => (World.ownsRow.lt q1 i e).1
                  have X : NaInv w (w8.setCell ⟨x, 23, none⟩ (.slice A8 (k + 1) c8)) g x B q15 o17 m (.int .i64 ((k : Int) + 1)) := ⟨k + 1, bv5, .slice A8 (k + 1) c8, by simp, hlt, by omega, fun j hj => by
                      by_cases hjk : j < k
                      · exact HJ.out j hjk
                      · obtain rfl : j = k := by omega
                        exact HSM.out, P.1, P.2.1, row_turnW q1 P.2.2 (fun i e q => by have := hv8 i e; have q' : i = x := q; omega), ((HTK.out.and (HT5.out.mono fun _ e => .inl e)).trans T8 fun i e => .inr (HOX2.out i e)).and (P.2.2.mono fun _ e => .inr e)⟩
                  have HX := Lib.hid X
                  have c23' := hx8.1.2 23 _ rfl
                  have f23' := hx8.2 23 (by simp [PK.cells])
                  have l23' := hx8.1.1
                  clear X P q1 q2 q3 T8 hd8 hv8 hx8
                  refine hK.out _ _ trivial (fun hHeld9 => ?_)
                  clear hK K
                  refine wpAnyH_take (i := 10) (oi := _) (v := ?_) rfl (by kernel_rfl) (by kernel_rfl) (by kernel_rfl) (fun _ _ _ h => h) (Or.inl ⟨by rfl, ?_⟩) (by assumption) ?_
                  rotate_left
                  · (intro w hSw; (try dsimp only at hSw); go_simp; (try with_reducible rfl))
                  simp only [Act.put]
                  refine wpAnyH_take (i := 11) (oi := _) (v := ?_) rfl (by kernel_rfl) (by kernel_rfl) (by kernel_rfl) (fun _ _ _ h => h) (Or.inl ⟨by rfl, ?_⟩) (by assumption) ?_
                  rotate_left
                  · (intro w hSw; (try dsimp only at hSw); go_simp; (try with_reducible rfl))
                  simp only [Act.put]
                  refine wpAnyH_take (i := 12) (oi := _) (v := ?_) rfl (by kernel_rfl) (by kernel_rfl) (by kernel_rfl) (fun _ _ _ h => h) (Or.inl ⟨by rfl, ?_⟩) (by assumption) ?_
                  rotate_left
                  · (intro w hSw; (try dsimp only at hSw); go_simp; (try with_reducible rfl))
                  simp only [Act.put]
                  refine wpAnyH_ready (rs := [13]) (by kernel_rfl) (by simp) ?_
                  refine AllReadyH.cons (o := _) rfl (fun K hK => ?_) AllReadyH.nil
                  go_simp
                  refine hK.out _ _ trivial (fun hHeld10 => ?_)
                  clear hK K
                  refine wpAnyH_done (by kernel_rfl) ?_ _
                  clear c23 c23' f23' l23' d0
                  go_wp2_with fail
                  go_roundw
                  have e5 : wrap64 ((k : Int) + 1) = (k : Int) + 1 := IntWalk.wrap64_in _ (by omega)
                  case rel => (try rw [e5]); first | exact HX.out | ((repeat apply Exists.intro); exact HX.out) | ((repeat apply Exists.intro); refine ⟨HX.out, ?_⟩; rfl)
                  case measure => (have e5 : wrap64 ((k : Int) + 1) = (k : Int) + 1 := IntWalk.wrap64_in _ (by omega)); first | exact measV hk17 | (rw [e5]; exact measV hk17)
          · obtain rfl : k = m := by omega
            have HFIN := Lib.hid (show ∃ nv, MDone w wr g x B (rRTold true q o) nv ∧ ((rRTold true q o).2.isSome = true → OS wr w.heap.size nv (rRTold true q o).1.names) by
              rw [HEN.out k (Nat.le_refl _) HJ.out (.inl rfl)]
              exact ⟨nvk, ⟨bvk, HDK.out, HXK.out, HTK.out⟩, fun _ => HOK.out⟩)
            go_wp2_with fail
            go_end0
            exact ⟨rfl, HFIN.out⟩
end Go.Proofs.Ytdlcpfgogjcciaa
