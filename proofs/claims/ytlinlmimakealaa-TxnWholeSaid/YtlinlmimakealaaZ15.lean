/- txn.over: a patch laid over bytes. commonsref08.Encode. commonsref08.Log: End, keep, Clear. commonsref08.Log: Read. No statement of the seat is proved here. -/
import Derived.Test.YtlinlmimakealaaZ12
import Derived.Test.YtlinlmimakealaaZ14
import Derived.Test.YtlinlmimakealaaZ06
import Derived.Lib.LazyBuf
import Derived.Deep.RegionHeld3
import Derived.Deep.QuietTactic
import Derived.BigQuiet
import Derived.Test.YtlinlmimakealaaZ07
namespace Go.Proofs.Ytlinlmimakealaa
open Go.RowKit

/-- The block of an address. -/
def BlkA (A : Option Addr) (k : Nat) : Prop := ∃ p, A = some p ∧ p.block = k
theorem Own.keep {w w' : World} {base n c : Nat} {A : Option Addr} {bs : List UInt8} (h : Own w base A n c bs) (g : Grow w w') : Own w' base A n c bs := ⟨h.1, h.2.1, World.ownsRow.kept h.2.2 (grow_by g) (own_none' _)⟩
theorem Own.set1 {w : World} {base n c g : Nat} {bs : List UInt8} (h : Own w base (some ⟨g, 0, none⟩) n c bs) (i : Nat) (u : UInt8) : Own (w.setCell ⟨g, i, none⟩ (.int .u8 (u.toNat : Int))) base (some ⟨g, 0, none⟩) n c (bs.set i u) := by
  obtain ⟨h1, h2, h3⟩ := h
  refine ⟨by simpa using h1, h2, ?_⟩
  have h4 : w.ownsRow base 5 1 (.slice (some ⟨g, 0, none⟩) n c) n (bvs bs) := by have := h3; unfold OB at this; rwa [h1] at this
  have h5 := (World.ownsRow.stored h4 i (.int .u8 (u.toNat : Int))).1
  unfold OB
  rw [List.length_set, h1]
  have e : bvs (bs.set i u) = (bvs bs).set i (.int .u8 (u.toNat : Int)) := by simp [bvs, List.map_set, bv]
  rw [e]
  exact h5
theorem Own.puts {base n c g : Nat} (L : List UInt8) : ∀ {w : World} {bs : List UInt8} (o : Nat), Own w base (some ⟨g, 0, none⟩) n c bs → Own (w.setCells g o (L.map fun x => Value.int .u8 (x.toNat : Int))) base (some ⟨g, 0, none⟩) n c (putL bs o L) ∧ Turn (BlkA (some ⟨g, 0, none⟩)) w (w.setCells g o (L.map fun x => Value.int .u8 (x.toNat : Int))) := by
  induction L with
  | nil => intro w bs o h; exact ⟨h, Turn.refl _ _⟩
  | cons u L ih =>
    intro w bs o h
    obtain ⟨h1, h2⟩ := ih (o + 1) (h.set1 o u)
    exact ⟨h1, (Turn.setCell w (p := ⟨g, o, none⟩) ⟨_, rfl, rfl⟩ _).and h2⟩
theorem Own.look {w : World} {base n c g : Nat} {bs : List UInt8} (h : Own w base (some ⟨g, 0, none⟩) n c bs) (j : Nat) (hj : j < n) : (w.cell? ⟨g, j, none⟩).isSome = true ∧ w.frozen? ⟨g, j, none⟩ = false := by
  obtain ⟨h1, h2, h3⟩ := h
  have h4 : w.ownsRow base 5 1 (.slice (some ⟨g, 0, none⟩) n c) n (bvs bs) := by have := h3; unfold OB at this; rwa [h1] at this
  refine ⟨?_, World.ownsRow.frozenAt h4 j⟩
  rw [World.ownsRow.cellAt h4 j (by omega), List.getElem?_eq_getElem (by rw [bvs_length]; omega)]
  rfl
/-- 'copy(dst, s)', s a string no shorter than dst. -/
theorem run_copy_cut {P : Program} (w : World) (dT sT ty elem : TypeId) (b o dLen dCap : Nat) (t : ByteArray)
    (hu : P.underlying dT = some (.slice elem)) (hz : ∀ w, (Go.sizeOf elem).run P w = .ok 1 w) (hle : dLen ≤ t.size)
    (hc : ∀ j, j < dLen → (w.cell? ⟨b, o + j, none⟩).isSome = true) (hf : ∀ j, j < dLen → w.frozen? ⟨b, o + j, none⟩ = false) :
    (Builtin.copy_ #[dT, sT] ty #[.slice (some ⟨b, o, none⟩) dLen dCap, .string t]).run P w = .ok (goInt dLen) (w.setCells b o ((t.data.toList.take dLen).map fun x => Value.int .u8 (x.toNat : Int))) := by
  have hmin : Nat.min t.size dLen = dLen := Nat.min_eq_right hle
  have hl : ((t.data.toList.take dLen).map fun x => Value.int .u8 (x.toNat : Int)).length = dLen := by
    have : t.data.toList.length = t.size := by rw [Array.length_toList]; rfl
    rw [List.length_map, List.length_take, this]; omega
  have hst := run_storeCells_cells (P := P) b o ((t.data.toList.take dLen).map fun x => Value.int .u8 (x.toNat : Int)) 0 w (by rw [hl]; simpa using hc) (by rw [hl]; simpa using hf) (by
    intro v hv
    obtain ⟨x, _, rfl⟩ := List.mem_map.1 hv
    rfl)
  rw [Nat.add_zero] at hst
  simp [Builtin.copy_, run_underlying hu, Builtin.lenOf, Builtin.firstCells, hz, hmin]
  simp only [List.map_take] at hst ⊢
  rw [hst]
  rfl
theorem step_copyS {w : World} {ops : Array Oper} {o : Oper} {a : Act} {K : Act → World → Prop} {Q : Exit → Act → World → Prop} {E : Prop} (hgd : o.guard = none) (d x : Operand)
    (ho : o.op = .call { callee := .builtin .copy, args := #[d, x], argTypes := #[22, 9] })
    (base n c g off dLen dCap : Nat) (bs : List UInt8) (hown : Own w base (some ⟨g, 0, none⟩) n c bs) (dp : Option Addr) (hdp : dp = some ⟨g, off, none⟩) (hd : a.eval d = .slice dp dLen dCap) (s : ByteArray) (hx : a.eval x = .string s) (hle : dLen ≤ s.size) (hfit : off + dLen ≤ n)
    (h : ∀ w', Own w' base (some ⟨g, 0, none⟩) n c (putL bs off (s.data.toList.take dLen)) → Turn (BlkA (some ⟨g, 0, none⟩)) w w' → K (a.put o.dst (goInt dLen)) w') : if Region.wanted o (yielded ops a.tmps) = true then Oper.wp Try.prog o a w K Q else E := by
  subst hdp
  have hw : Region.wanted o (yielded ops a.tmps) = true := by simp [Region.wanted, hgd]
  rw [if_pos hw]
  obtain ⟨i0, hi, hz, h1, h2⟩ := info_parts byte_info
  have hrun := run_copy_cut (P := Try.prog) w 22 9 o.type 5 g off dLen dCap s Try.underlying22 (fun w => by simp [Go.sizeOf, typeInfo, hi, h1]) hle (fun j hj => (hown.look (off + j) (by omega)).1) (fun j hj => (hown.look (off + j) (by omega)).2)
  obtain ⟨q1, q2⟩ := hown.puts (s.data.toList.take dLen) off
  unfold Oper.wp execOp
  simp only [ho, resolve, invoke, builtin, Sem.run_bind, Sem.run_pure, Result.andThen_ok, List.map_toArray, List.map_cons, List.map_nil, hd, hx, hrun]
  exact h _ q1 q2

set_option maxHeartbeats 2000000 in
theorem over_c {w : World} {base n c : Nat} {A : Option Addr} {bs : List UInt8} (h : Own w base A n c bs) (a q : Nat) (dat : ByteArray) (ha : a ≤ 1024) (hn : n ≤ 1024) (hq : q ≤ 1024) (hd : dat.size ≤ 1024) :
    Calls Try.prog 53 #[.slice A n c, .int .i64 (a : Int), .agg #[.int .i64 (q : Int), .string dat]] w fun e w' => e = .returned (.tuple #[]) ∧ Own w' base A n c (ovB bs a ⟨(q : Int), dat⟩) ∧ Turn (BlkA A) w w' := by
  have H := Lib.hid h
  have hl := h.1
  have e1 : wrap64 ((a : Int) + (n : Int)) = (a : Int) + (n : Int) := IntWalk.wrap64_in _ (by omega)
  have e2 : wrap64 ((q : Int) + (dat.size : Int)) = (q : Int) + (dat.size : Int) := IntWalk.wrap64_in _ (by omega)
  obtain ⟨F, hF⟩ : ∃ F, F = max a q := ⟨_, rfl⟩
  obtain ⟨T, hT⟩ : ∃ T, T = min (a + n) (q + dat.size) := ⟨_, rfl⟩
  have hFc : (a < q ∧ F = q) ∨ (¬ a < q ∧ F = a) := by omega
  have hTc : (q + dat.size < a + n ∧ T = q + dat.size) ∨ (¬ q + dat.size < a + n ∧ T = a + n) := by omega
  have HF := Lib.hid hF
  have HT := Lib.hid hT
  have HFT := Lib.hid (And.intro hFc hTc)
  clear h hF hT hFc hTc
  go_enter Try.func53, Try.ntmps53
  go_upto_region 1 with (fail)
  obtain ⟨bx, hbx⟩ : ∃ bx, bx = w.heap.size := ⟨_, rfl⟩
  obtain ⟨wa, hwa⟩ : ∃ wa, wa = w.alloc (.cells #[.int .i64 (q : Int), .string dat] 37) := ⟨_, rfl⟩
  have NB := Row.new w 37 [.int .i64 (q : Int), .string dat] _ rfl
  have gA := (Grow.refl w).alloc (.cells #[.int .i64 (q : Int), .string dat] 37)
  rw [← hwa] at gA NB
  rw [← hbx] at NB
  rw [← hbx, ← hwa]
  have c0 := NB.1.c2.1
  have c1 := NB.1.c2.2
  have HG := Lib.hid gA
  have HBX := Lib.hid hbx
  have HO := Lib.hid (show Own wa base A n c bs by rw [hwa]; exact H.out.alloc _)
  clear hwa gA NB hbx
  go_cut [6] (fun u wx => u = .int .i64 (F : Int) ∧ wx = wa)
  case first =>
    go_wp2_with fail
    all_goals
      go_meet
      have := HFT.out
      refine ⟨?_, rfl⟩; congr 1; omega
  case rest =>
    obtain ⟨rfl, rfl⟩ := hcut
    go_upto_region 2 with (fail)
    go_cut [7] (fun v wx => v = .int .i64 (T : Int) ∧ wx = wc)
    case first =>
      go_wp2_with fail
      all_goals
        go_meet
        have := HFT.out
        refine ⟨?_, rfl⟩; congr 1; omega
    case rest =>
    obtain ⟨rfl, rfl⟩ := hcut
    by_cases hft : F < T
    · have hFF := HFT.out
      obtain ⟨g, rfl, hg1, hg2⟩ := HO.out.row (by omega)
      have hcap := HO.out.cap
      obtain ⟨k1, hk1⟩ : ∃ k1, k1 = F - a := ⟨_, rfl⟩
      obtain ⟨k2, hk2⟩ : ∃ k2, k2 = T - a := ⟨_, rfl⟩
      obtain ⟨k3, hk3⟩ : ∃ k3, k3 = F - q := ⟨_, rfl⟩
      have hb : k1 < k2 ∧ k2 ≤ n ∧ k2 ≤ c ∧ k3 + (k2 - k1) ≤ dat.size ∧ k3 ≤ dat.size := by omega
      have y1 : IntKind.i64.wrap ((F : Int) - (a : Int)) = (k1 : Int) := by rw [IntWalk.i64_in _ (by omega)]; omega
      have y2 : IntKind.i64.wrap ((T : Int) - (a : Int)) = (k2 : Int) := by rw [IntWalk.i64_in _ (by omega)]; omega
      have y3 : IntKind.i64.wrap ((F : Int) - (q : Int)) = (k3 : Int) := by rw [IntWalk.i64_in _ (by omega)]; omega
      have i1 : (k1 : Int) ≤ (k2 : Int) := by omega
      have i2 : (k2 : Int) ≤ (c : Int) := by omega
      have i3 : (k3 : Int) ≤ (dat.size : Int) := by omega
      have hne : ¬ c = k1 := by omega
      have HN := Lib.hid (And.intro hk1 (And.intro hk2 (And.intro hk3 (And.intro hft hFF))))
      have HH := Lib.hid hb
      have hgb : bx ≠ g := by
        have h1 : Own w base (some ⟨g, 0, none⟩) n c bs := H.out
        obtain ⟨g', e, -, hlt⟩ := h1.row (by omega)
        injection e with e
        injection e with e
        have := HBX.out
        omega
      have hsz : (dat.extract k3 dat.size).size = dat.size - k3 := by rw [ByteArray.size_extract]; omega
      have HSZ := Lib.hid hsz
      clear hk1 hk2 hk3 hFF hcap hsz
      go_wp2_with fail
      go_region_held3 (fun w' => w'.cell? ⟨bx, 0, none⟩ = some (.int .i64 (q : Int)) ∧ w'.cell? ⟨bx, 1, none⟩ = some (.string dat)) (first | exact ⟨c0, c1⟩ | exact hs4) ((refine step_copyS rfl (.tmp 33) (.tmp 40) rfl base n c g k1 (k2 - k1) (c - k1) bs (HO.out.keep (by (repeat (first | exact Grow.refl _ | refine Grow.drew ?_ | refine Grow.drewN ?_ _)))) _ (by first | rfl | (simp [hne]; done) | exact slice_ne hne) (by first | rfl | simp) (dat.extract k3 dat.size) (by first | rfl | simp) (by have := HSZ.out; have := HH.out; omega) (by have := HH.out; omega) ?_; intro w4 q1 q2; have hs4 := And.intro (q2.cell' c0 (fun ⟨p, hp, e⟩ => hgb (by injection hp with hp; subst hp; exact e.symm))) (q2.cell' c1 (fun ⟨p, hp, e⟩ => hgb (by injection hp with hp; subst hp; exact e.symm)))))
      all_goals
        go_wp2_with fail
        go_end0
        refine ⟨rfl, ?_, Turn.and (Turn.grow (by (repeat (first | exact HG.out | refine Grow.drew ?_ | refine Grow.drewN ?_ _))) _) q2⟩
        obtain ⟨hk1, hk2, hk3, hlt, -⟩ := HN.out
        have e : ovB bs a ⟨(q : Int), dat⟩ = putL bs k1 ((dat.extract k3 dat.size).data.toList.take (k2 - k1)) := by
          have hF := HF.out
          have hT := HT.out
          unfold ovB
          simp only [Int.toNat_natCast]
          rw [hl, ← hF, ← hT, if_pos hlt, ← hk1, ← hk3, show T - F = k2 - k1 by omega]
          congr 2
          simp only [PT.txt, ByteArray.data_extract, Array.toList_extract, List.extract_eq_take_drop]
          rw [List.take_of_length_le (by rw [List.length_drop, Array.length_toList]; exact Nat.le_refl _)]
        rw [e]
        exact q1
    · go_wp2_with fail
      go_end0
      refine ⟨rfl, ?_, Turn.grow HG.out _⟩
      have e : ovB bs a ⟨(q : Int), dat⟩ = bs := by
        unfold ovB
        rw [if_neg]
        have := HF.out; have := HT.out
        simp only [Int.toNat_natCast]
        omega
      rw [e]
      exact HO.out
end Go.Proofs.Ytlinlmimakealaa

namespace Go.Proofs.Ytlinlmimakealaa
open Go.RowKit

def PadInv (w wr : World) (bs : List UInt8) (f : Nat) (v : Value) : Prop := ∃ (j : Nat) (A : Option Addr) (N c : Nat), j ≤ f ∧ N = bs.length + j ∧ v = .slice A N c ∧ Own wr w.heap.size A N c (bs ++ List.replicate j 0) ∧ Grow w wr
theorem rl_encode_long {w : World} {A : Option Addr} {n c : Nat} {L : List PT} (hn : L.length = n) (hl : 64 < n) :
    Calls Try.prog 76 #[.slice A n c] w fun e w' => EncRes w w' L e := by
  have HM := Lib.hid (show mayP L = false by rw [Bool.eq_false_iff]; intro q; have := (mayP_iff.1 q).1; omega)
  have z1 : decide (64 < n) = true := decide_eq_true hl
  have z2 : decide ((64 : Int) < (n : Int)) = true := decide_eq_true (by omega)
  clear hn
  go_enter Try.func76, Try.ntmps76
  go_wp2_with fail
  go_ret2
  exact .inr ⟨HM.out, rfl, Grow.refl _⟩

set_option maxHeartbeats 4000000 in
set_option maxRecDepth 8000 in
theorem rl_encode_go {w : World} {A : Option Addr} {n c : Nat} {L : List PT} (hr : RP w A n L) (hl : n ≤ 64) (hw : ∀ p ∈ L, p.wide) :
    Calls Try.prog 76 #[.slice A n c] w fun e w' => EncRes w w' L e := by
  have HR := Lib.hid hr
  have HN := Lib.hid hr.1
  have HW := Lib.hid hw
  have z1 : decide (64 < n) = false := decide_eq_false (by omega)
  have z2 : decide ((64 : Int) < (n : Int)) = false := decide_eq_false (by omega)
  clear hr hw
  go_enter Try.func76, Try.ntmps76
  go_wp2_with fail
  refine (rput_s (n := 0) (bs := []) 2 Sl.nil (by simp [fitsB]; omega) (by omega) (by simp) (by omega)).mono ?_
  rintro e w1 ⟨A1, c1, rfl, o1, g1⟩
  have HI := Lib.hid (show EncInv w w1 L (.slice A1 2 c1) (.int .i64 0) from ⟨0, 2, A1, c1, rfl, by omega, rfl, by omega, by simpa [encF, HN.out] using o1, by simp, g1⟩)
  clear o1 g1
  go_wp2_with fail
  go_loopw [4, 5] (fun v t wr => EncInv w wr L v t) (fun _ t _ => n - (intOf t).toNat)
  case atStart => exact HI.out
  case round =>
    obtain ⟨k, m, A2, c2, rfl, hk, rfl, hm, o2, hall, g2⟩ := hrel
    clear HI
    by_cases hlt : k < n
    · obtain ⟨b, o, r, hrk, rfl, hb, d0, d1⟩ := HR.out.at_ hlt
      obtain ⟨hk1, hk2⟩ := List.getElem?_eq_some_iff.1 hrk
      have hwd := HW.out r (by rw [← hk2]; exact List.getElem_mem _)
      have e0 := g2.cell d0
      have e1 := g2.cell d1
      have HRK := Lib.hid hk2
      have HWD := Lib.hid hwd
      have HALL := Lib.hid hall
      have HD := Lib.hid (And.intro d0 d1)
      clear d0 d1 hrk hwd hall hk2
      go_wp2_with fail
      refine (ref1_fits r.pos 4 _).mono ?_
      rintro e w' ⟨rfl, rfl⟩
      cases hf : fitsB r.pos 4 with
      | false =>
        have HM := Lib.hid (show mayP L = false from not_mayP (k := k) hk1 (by rw [HRK.out, PT.may, hf]; rfl))
        clear hf
        go_wp2_with fail
        go_ret2
        exact .inr ⟨HM.out, rfl, g2⟩
      | true =>
        by_cases hs : 256 < r.dat.size
        · have HM := Lib.hid (show mayP L = false from not_mayP (k := k) hk1 (by rw [HRK.out, PT.may, hf]; simp; omega))
          have y1 : decide (256 < r.dat.size) = true := decide_eq_true hs
          have y2 : decide ((256 : Int) < (r.dat.size : Int)) = true := decide_eq_true (by omega)
          clear hf
          go_wp2_with fail
          go_ret2
          exact .inr ⟨HM.out, rfl, g2⟩
        · have HF := Lib.hid hf
          have y1 : decide (256 < r.dat.size) = false := decide_eq_false hs
          have y2 : decide ((256 : Int) < (r.dat.size : Int)) = false := decide_eq_false (by omega)
          have hsz : r.dat.size ≤ 256 := by omega
          have HMAY := Lib.hid (take_may (k := k) hk1 HALL.out (by rw [HRK.out, PT.may, hf]; simp; omega))
          clear hf hs
          have s2 := o2.sl
          have HS3 := Lib.hid s2
          have HG3 := Lib.hid g2
          have HO := Lib.hid o2
          have hmb : m ≤ 20000 := by omega
          have hm4 : m + (Int.toNat 4) = m + 4 := rfl
          clear s2 o2
          go_wp2_with fail
          refine (rput_s (m + 4) HS3.out HF.out HWD.out.2 hm4 (by omega)).mono ?_
          rintro e w4 ⟨A4, c4, rfl, o4, g4⟩
          have HG4 := Lib.hid (HG3.out.trans g4)
          have s4 := o4.sl
          have l4 := g4.size
          have f0 := HG4.out.cell HD.out.1; have f1 := HG4.out.cell HD.out.2
          clear HS3 o4 e0 e1
          go_wp2_with fail
          refine (rput_s (m + 6) s4 (k := (r.dat.size : Int)) (by simp [fitsB]; omega) (by omega) (by simp) (by omega)).mono ?_
          rintro e w5 ⟨A5, c5, rfl, o5, g5⟩
          have HG5 := Lib.hid (HG4.out.trans g5)
          have h0 := HG5.out.cell HD.out.1; have h1 := HG5.out.cell HD.out.2
          have o5' := o5.low (B := w.heap.size) (Nat.le_trans HG3.out.size l4)
          have HZ5 := Lib.hid HG5.out.size
          have HL5 := Lib.hid o5'.1
          clear o5 s4 f0 f1 l4
          go_wp2_with (at_builtin; refine wpList_appS rfl (.tmp 51) (.tmp 56) rfl w.heap.size _ _ rfl o5'.2.2 r.dat rfl (by rw [HL5.out]; omega) HZ5.out ?_; intro v6 w6 q1 q2; obtain ⟨A6, c6, rfl, o6⟩ := Own.ofOB q1 (m + 6 + r.dat.size) (by rw [List.length_append, HL5.out]; exact congrArg _ (PT.txt_length r)) (by omega); clear q1)
          have X : EncInv w w6 L (.slice A6 (m + 6 + r.dat.size) c6) (.int .i64 ((k : Int) + 1)) := ⟨k + 1, _, A6, c6, by simp, hk1, rfl, by omega, by
            have := encF_take (L := L) (k := k) hk1
            rw [this, HRK.out, PT.enc]
            simpa [List.append_assoc, PT.txt] using o6, HMAY.out, HG5.out.low q2⟩
          have e5 := wrap_small1 (show k < 64 by omega)
          clear o6 q2 o5' h0 h1
          go_roundw
          case rel => (try rw [e5]); first | exact X | ((repeat apply Exists.intro); exact X) | ((repeat apply Exists.intro); refine ⟨X, ?_⟩; rfl)
          case measure => first | exact measP hlt | exact measPW hlt e5
    · obtain rfl : k = n := by have := HN.out; omega
      have HMAY := Lib.hid (show mayP L = true from mayP_iff.2 ⟨by have := HN.out; omega, by rw [List.take_of_length_le (by have := HN.out; omega)] at hall; exact hall⟩)
      have HB := Lib.hid (show leB L.length 2 ++ encF (L.take k) = bodyP L by rw [List.take_of_length_le (by have := HN.out; omega)]; rfl)
      have HO := Lib.hid o2
      have HG := Lib.hid g2
      have hmb : m ≤ 20000 := by omega
      have s2 := o2.sl
      have HEQ := Lib.hid (encP_le HMAY.out)
      obtain ⟨bd, hbd⟩ : ∃ bd, bd = bodyP L := ⟨_, rfl⟩
      rw [HB.out, ← hbd] at s2
      have HBD := Lib.hid hbd
      have HLB := Lib.hid s2.1
      clear o2 hall g2 hlt hbd
      go_wp2_with fail
      refine (rsum_s s2).mono ?_
      rintro e w3 ⟨q, rfl, hq, hq1, rfl⟩
      have s3 := s2
      have HG3 := HG
      have hm4 : m + (Int.toNat 4) = m + 4 := rfl
      clear s2
      go_wp2_with fail
      refine (rput_s (m + 4) s3 (k := (q : Int)) (by simp [fitsB]; omega) (by omega) hm4 (by omega)).mono ?_
      rintro e w4 ⟨A4, c4, rfl, o4, g4⟩
      have HG4 := Lib.hid (HG3.out.trans g4)
      have HZ4 := Lib.hid HG4.out.size
      have o4' := o4.low (B := w.heap.size) HG3.out.size
      have hbb : bd ++ leB (q : Int).toNat (Int.toNat 4) = sumB bd := by rw [hq.out]; rfl
      rw [hbb] at o4'
      have hlb : (sumB bd).length = m + 4 := by rw [sumB_length, HLB.out]
      have hfl := fill_ltP (m + 4)
      obtain ⟨f, hf⟩ : ∃ f, f = fillN (m + 4) := ⟨_, rfl⟩
      rw [← hf] at hfl
      have HF := Lib.hid hf
      have hf8 : (m + 4 + f) % 8 = 0 ∧ ∀ j, j < f → (m + 4 + j) % 8 ≠ 0 := by
        rw [hf, fillN]
        refine ⟨by omega, ?_⟩
        intro j hj
        omega
      have HF8 := Lib.hid hf8
      have HLS := Lib.hid hlb
      have HI := Lib.hid (show PadInv w w4 (sumB bd) f (.slice A4 (m + 4) c4) from ⟨0, A4, m + 4, c4, Nat.zero_le _, by rw [hlb], rfl, by simpa using o4', HG4.out⟩)
      clear o4 g4 s3 hbb hlb hf hf8 o4' hq
      go_wp2_with fail
      go_loopw [4] (fun v wr => PadInv w wr (sumB bd) f v) (fun v _ => m + 4 + f - lenV v)
      case atStart => exact HI.out
      case round =>
        obtain ⟨j, A9, N, c9, hj, hN, rfl, o9, g9⟩ := hrel
        rw [HLS.out] at hN
        have hNs : N ≤ 30000 := by omega
        have HO9 := Lib.hid o9
        have HZ9 := Lib.hid g9.size
        by_cases hlt : j < f
        · have hne := HF8.out.2 j hlt
          rw [← hN] at hne
          have hne1 : ((N : Int) % 8 != 0) = true := by simp; omega
          have HN := Lib.hid hN
          clear hN hne o9
          go_wp2_with (at_builtin; refine wpList_app1 rfl (.tmp 66) (.tmp 67) rfl w.heap.size _ _ rfl _ rfl HO9.out.2.2 0 (by rfl) (by have := HO9.out.1; omega) HZ9.out ?_; intro v10 w10 hown10 hb10)
          rw [List.append_assoc, ← List.replicate_succ'] at hown10
          obtain ⟨A10, c10, rfl, o10⟩ := Own.ofOB hown10 (N + 1) (by have := HLS.out; have := HN.out; simp; omega) (by omega)
          have X : PadInv w w10 (sumB bd) f (.slice A10 (N + 1) c10) := ⟨j + 1, A10, N + 1, c10, hlt, by have := HLS.out; have := HN.out; omega, rfl, o10, g9.low hb10⟩
          have HX := Lib.hid X
          have hM : m + 4 + f - lenV (.slice A10 (N + 1) c10) < m + 4 + f - lenV (.slice A9 N c9) := by have := HN.out; simp only [lenV]; omega
          clear hown10 X o10
          go_roundw
          case rel => exact HX.out
          case measure => exact hM
        · obtain rfl : j = f := by omega
          have hne := HF8.out.1
          rw [← hN] at hne
          have hne1 : ((N : Int) % 8 != 0) = false := by simp; omega
          have he : sumB bd ++ List.replicate j 0 = encP L := by rw [encP, ← HBD.out, HF.out, HLS.out]
          rw [he] at o9
          have HN := Lib.hid hN
          have HE := Lib.hid (show N = (encP L).length from o9.1.symm)
          have HO10 := Lib.hid o9
          clear hN hne he o9 HO9
          go_wp2_with fail
          go_ret2
          refine .inl ⟨HMAY.out, A9, c9, ?_, ?_, g9⟩
          · rw [← HE.out]; rfl
          · rw [← HE.out]; exact HO10.out

theorem rl_encode {w : World} {A : Option Addr} {n c : Nat} {L : List PT} (hr : RP w A n L) (hw : ∀ p ∈ L, p.wide) :
    Calls Try.prog 76 #[.slice A n c] w fun e w' => EncRes w w' L e := by
  by_cases h : 64 < n
  · exact rl_encode_long hr.1 h
  · exact rl_encode_go hr (by omega) hw
end Go.Proofs.Ytlinlmimakealaa

namespace Go.Proofs.Ytlinlmimakealaa
open Go.RowKit

/-- The document's log in the last 512 bytes of a memory of 1024. -/
def RL (w : World) (l : Nat) (x : MB) (s : MS) : Prop := RM w x 128 s.S s.T s.A ∧ Blk w l [.pointer (some ⟨x.p, 0, none⟩), .int .i64 512, .int .i64 512] ∧ ¬ x.F l
section
variable {w w' : World} {l : Nat} {x : MB} {s : MS} {F : Nat → Prop}
theorem RL.keep (h : RL w l x s) (g : Grow w w') : RL w' l x s := ⟨h.1.keep g, h.2.1.keep g, h.2.2⟩
theorem RL.turn (h : RL w l x s) (t : Turn F w w') (h1 : ∀ k, F k → ¬ x.F k) (h2 : ¬ F l) : RL w' l x s := ⟨h.1.turn t h1, h.2.1.turn t h2, h.2.2⟩
theorem RL.lenS (h : RL w l x s) : s.S.length = 1024 := h.1.lenS
/-- What a walk wants of the bytes that are seen. -/
theorem RM.eyes {S T : List UInt8} {A : List Bool} (h : RM w x 128 S T A) : ∃ L cs, Hid (L = 1024) ∧ L ≤ 1024 ∧ 1024 ≤ L ∧ L ≤ cs ∧ w.cell? ⟨x.p, 0, none⟩ = some (.slice (some ⟨x.gs, 0, none⟩) L cs) ∧ Sl w (some ⟨x.gs, 0, none⟩) L S := by
  have hl := h.lenS
  obtain ⟨L, cs, ct, ca, HL, h1, -, -, c0, -, -, -⟩ := h.look
  have e : L = 1024 := HL.out
  exact ⟨L, cs, Lib.hid e, by omega, by omega, h1, c0, by omega, by omega, h.seenRB⟩
end

set_option maxHeartbeats 2000000 in
theorem rl_keep {w : World} {l : Nat} {x : MB} {s : MS} (h : RL w l x s) {B : Option Addr} {m c : Nat} {bs : List UInt8} (hs : Sl w B m bs) (hB : 0 < m → ∀ p, B = some p → ¬ x.F p.block) (a : Int) :
    Calls Try.prog 78 #[.pointer (some ⟨l, 0, none⟩), .int .i64 a, .slice B m c] w fun e w' => e = .returned (.tuple #[]) ∧ RL w' l x (s.keep a bs) ∧ Turn x.F w w' := by
  obtain ⟨hP, hl, hlx⟩ := h
  have c0 := hl.c3.1
  have HL := Lib.hid hl
  have HLX := Lib.hid hlx
  have HP := Lib.hid hP
  have HS := Lib.hid hs
  have HB := Lib.hid hB
  have HM := Lib.hid hs.1
  clear hl hP hs hB hlx
  go_enter Try.func78, Try.ntmps78
  go_wp2_with fail
  refine (rm_storeU HP.out HS.out HB.out a).mono ?_
  rintro e w1 ⟨rfl, hP1, t1⟩
  have HP1 := Lib.hid hP1
  have HT1 := Lib.hid t1
  have HL1 := Lib.hid (HL.out.turn t1 HLX.out)
  have c1 := HL1.out.c3.1
  clear hP1 t1 c0
  go_wp2_with fail
  refine (rm_flushU HP1.out a (m : Int)).mono ?_
  rintro e w2 ⟨rfl, hP2, t2⟩
  have HP2 := Lib.hid hP2
  have HT2 := Lib.hid (HT1.out.and t2)
  have HL2 := Lib.hid (HL1.out.turn t2 HLX.out)
  have c2 := HL2.out.c3.1
  clear hP2 t2 c1
  go_wp2_with fail
  refine (rm_fence HP2.out).mono ?_
  rintro e w3 ⟨rfl, hP3, t3⟩
  have HP3 := Lib.hid hP3
  have HT3 := Lib.hid t3
  clear hP3 t3 c2
  go_wp2_with fail
  go_end0
  refine ⟨rfl, ⟨?_, HL2.out.turn HT3.out HLX.out, HLX.out⟩, HT2.out.and HT3.out⟩
  simp only [MS.keep, MS.fence, MS.flush, MS.store]
  rw [HM.out]
  exact HP3.out

set_option maxHeartbeats 4000000 in
theorem rl_end {w : World} {l : Nat} {x : MB} {s : MS} (h : RL w l x s) :
    Calls Try.prog 85 #[.pointer (some ⟨l, 0, none⟩)] w fun e w' => e = .returned (.int .i64 (lgE s.S : Nat)) ∧ Grow w w' := by
  obtain ⟨hP, hl, hlx⟩ := h
  have c0 := hl.c3.1
  have c1 := hl.c3.2.1
  have c2 := hl.c3.2.2
  obtain ⟨L, cs, HLL, hL1, hL2, hcs, d0, hsl⟩ := hP.eyes
  have HS := Lib.hid hsl
  have HG := Lib.hid (get_any s.S 512 8)
  obtain ⟨kb, hkb⟩ : ∃ kb, kb = getK s.S 512 8 := ⟨_, rfl⟩
  have HK := Lib.hid hkb
  obtain ⟨v, hV⟩ : ∃ v, v = getN s.S 512 8 := ⟨_, rfl⟩
  rw [← hV] at HG
  have HV := Lib.hid hV
  have hv0 := HG.out.1
  clear hl hP hlx hsl hV hkb
  go_enter Try.func85, Try.ntmps85
  go_wp2_with fail
  go_region_held3 (fun w' => w'.cell? ⟨l, 0, none⟩ = some (.pointer (some ⟨x.p, 0, none⟩)) ∧ w'.cell? ⟨l, 1, none⟩ = some (.int .i64 512) ∧ w'.cell? ⟨l, 2, none⟩ = some (.int .i64 512) ∧ w'.cell? ⟨x.p, 0, none⟩ = some (.slice (some ⟨x.gs, 0, none⟩) L cs)) (first | exact ⟨c0, c1, c2, d0⟩ | exact hs3) ((go_at_call 88; go_loud (refine (rget_s (HS.out.keep ((Grow.refl w).drewN 1)) (by decide) (by decide)).mono ?_; rintro e w3 ⟨rfl, hw3⟩; rw [← HV.out, ← HK.out]; have g3 : Grow w w3 := (by rw [← hw3]; exact (Grow.refl w).drewN 1); have hs3 := And.intro (g3.cell c0) (And.intro (g3.cell c1) (And.intro (g3.cell c2) (g3.cell d0))); clear hw3)))
  all_goals
    obtain ⟨k0, k1, k2, k3⟩ := hs3
    have G3 := Lib.hid g3
    clear g3 k0 k1 k3 c0 c1 c2 d0
    cases kb with
    | false =>
      have HR := Lib.hid (show lgE s.S = 0 by rw [lgE, get_no HK.out.symm]; rfl)
      go_wp2_with fail
      go_ret
      exact ⟨ret_int (by rw [HR.out]; rfl), G3.out⟩
    | true =>
    by_cases h5 : 504 < v
    · have z1 : decide (504 < v) = true := decide_eq_true h5
      have HR := Lib.hid (show lgE s.S = 0 by rw [lgE, ← HV.out, if_pos h5])
      clear h5
      go_wp2_with fail
      go_ret
      exact ⟨ret_int (by rw [HR.out]; rfl), G3.out⟩
    · have z1 : decide (504 < v) = false := decide_eq_false h5
      have HR := Lib.hid (show (lgE s.S : Int) = v by rw [lgE, ← HV.out, if_neg h5]; omega)
      clear h5
      go_wp2_with fail
      go_ret
      exact ⟨ret_int HR.out.symm, G3.out⟩

theorem rl_wipe_at {w wz : World} {l : Nat} {x : MB} {s : MS} (h : RL w l x s) (g : Grow w wz) (k c : Nat) (hk : w.heap.size ≤ k) (hs : Sl wz (some ⟨k, 0, none⟩) 8 (List.replicate 8 0)) :
    Calls Try.prog 78 #[.pointer (some ⟨l, 0, none⟩), .int .i64 512, .slice (some ⟨k, 0, none⟩) 8 c] wz fun e w' => e = .returned (.tuple #[]) ∧ RL w' l x s.wipe ∧ Turn x.F w w' := by
  refine (rl_keep (h.keep g) hs (fun _ p hp q => ?_) 512).mono ?_
  · injection hp with hp
    subst hp
    have q' : x.F k := q
    have := h.1.lt k q'
    omega
  rintro e w' ⟨rfl, h5, t5⟩
  exact ⟨rfl, h5, (Turn.grow g _).and t5⟩

set_option maxHeartbeats 2000000 in
set_option maxRecDepth 4000 in
theorem rl_clear {w : World} {l : Nat} {x : MB} {s : MS} (h : RL w l x s) :
    Calls Try.prog 81 #[.pointer (some ⟨l, 0, none⟩)] w fun e w' => e = .returned (.tuple #[]) ∧ RL w' l x s.wipe ∧ Turn x.F w w' := by
  have H := Lib.hid h
  have c1 := h.2.1.c3.2.1
  have c2 : (w.alloc (.cells zc8 5)).cell? ⟨l, 1, none⟩ = some (.int .i64 512) := cell_alloc c1
  have c3 : (w.drew.alloc (.cells zc8 5)).cell? ⟨l, 1, none⟩ = some (.int .i64 512) := cell_alloc c1
  have hmk := make8
  clear h
  go_enter Try.func81, Try.ntmps81
  go_wp2_with fail
  go_region_with (go_at_call 78; refine (rl_wipe_at H.out ?_ _ _ ?_ ?_).mono ?_; (repeat (first | exact Grow.refl _ | refine Grow.drew ?_ | refine Grow.drewN ?_ _ | refine Grow.alloc ?_ _)); (first | exact Nat.le_refl _ | simp); ((repeat (refine Sl.drew ?_)); exact Sl.at8 _ _ _ rfl); rintro e w6 ⟨rfl, h6, t6⟩)
  all_goals
    have H6 := Lib.hid h6
    have HT6 := Lib.hid t6
    clear h6 t6
    go_wp2_with fail
    go_end0
    exact ⟨rfl, H6.out, HT6.out⟩
end Go.Proofs.Ytlinlmimakealaa

namespace Go.Proofs.Ytlinlmimakealaa
open Go.RowKit

/-- 'append' at a step of a region that draws its order. -/
theorem step_appB {w : World} {ops : Array Oper} {o : Oper} {a : Act} {K : Act → World → Prop} {Q : Exit → Act → World → Prop} {E : Prop} (hgd : o.guard = none) (s x : Operand)
    (ho : o.op = .call { callee := .builtin .append, args := #[s, x], argTypes := #[22, 22] })
    (base : Nat) (v : Value) (bs : List UInt8) (hs : a.eval s = v) (hown : OB w base v bs)
    (B : Nat) (A : Option Addr) (c : Nat) (news : List UInt8) (m : Nat) (hm : m = news.length) (hx : a.eval x = .slice A m c) (hr : RB w B A news)
    (h63 : bs.length + news.length ≤ 140737488355328) (hbase : base ≤ w.heap.size)
    (h : ∀ v' w', OB w' base v' (bs ++ news) → Below base w w' → K (a.put o.dst v') w') : if Region.wanted o (yielded ops a.tmps) = true then Oper.wp Try.prog o a w K Q else E := by
  subst hm
  have hw : Region.wanted o (yielded ops a.tmps) = true := by simp [Region.wanted, hgd]
  rw [if_pos hw]
  obtain ⟨i0, hi, hz, h1, h2⟩ := info_parts byte_info
  obtain ⟨v', w', hrun, h3, h4, h5⟩ := app_any (P := Try.prog) w base 22 o.type 5 i0 _ 1 1 Try.underlying22 hi hz h1 h2 rfl (by omega) v bs.length (bvs bs) hown B A news.length c (bvs news) hr (bvs_one news) (by unfold maxLen; omega) (by omega) hbase
  unfold Oper.wp execOp
  simp only [ho, resolve, invoke, builtin, Sem.run_bind, Sem.run_pure, Result.andThen_ok, List.map_toArray, List.map_cons, List.map_nil, hs, hx, hrun]
  exact h v' w' (by unfold OB; rw [List.length_append, bvs_append]; exact h3) ((Below.refl _ _).grown h4 hbase (fun k hk => (hown.lt k hk).1))

theorem ret_pair {v : Value} {a b : Int} (h : a = b) : Ending.returned (.tuple #[v, .int .i64 a]) = .returned (.tuple #[v, .int .i64 b]) := by rw [h]
theorem slice_ne {P : Prop} [Decidable P] {A B : Option Addr} {n c : Nat} (h : ¬ P) : Value.slice (if P then A else B) n c = Value.slice B n c := by rw [if_neg h]
def ReadInv (w wr : World) (bs : List UInt8) (tv tu : Value) : Prop :=
  ∃ (k i : Nat) (R : List RW), tu = .int .i64 (k : Int) ∧ k ≤ bs.length ∧ EachLink bs k i ∧ OW wr w.heap.size tv R ∧ R.map RW.L = (rcL bs).take i ∧ R.length = i ∧ i ≤ k ∧ Grow w wr

set_option maxHeartbeats 8000000 in
set_option maxRecDepth 8000 in
theorem rl_read {w : World} {l : Nat} {x : MB} {s : MS} (h : RL w l x s) :
    Calls Try.prog 77 #[.pointer (some ⟨l, 0, none⟩)] w fun e w' => ∃ v R, e = .returned (.tuple #[v, .int .i64 (lgU s.S : Nat)]) ∧ OW w' w.heap.size v R ∧ R.map RW.L = lgL s.S ∧ Grow w w' := by
  obtain ⟨hP, hl, hlx⟩ := id h
  have c0 := hl.c3.1
  have c1 := hl.c3.2.1
  obtain ⟨L, cs, HLL, hL1, hL2, hcs, d0, hsl⟩ := hP.eyes
  have HRL := Lib.hid h
  have HLE := Lib.hid (lgE_le s.S)
  have HBL := Lib.hid (lgB_length (S := s.S) hP.lenS)
  obtain ⟨n0, hn0⟩ : ∃ n0, n0 = lgE s.S := ⟨_, rfl⟩
  rw [← hn0] at HLE HBL
  have hn504 := HLE.out
  have hsd := (hsl.drop (k := 520) (c := cs) (by omega) hcs).take (k := n0) (by omega)
  rw [if_neg (by omega), show (some (⟨x.gs, 0, none⟩ : Addr)).map (·.add 520) = some ⟨x.gs, 520, none⟩ by simp [Addr.add_lit]] at hsd
  have hbe : (s.S.drop 520).take n0 = lgB s.S := by rw [lgB, ← hn0]
  rw [hbe] at hsd
  obtain ⟨bs, hbs⟩ : ∃ bs, bs = lgB s.S := ⟨_, rfl⟩
  rw [← hbs] at hsd HBL
  have HN0 := Lib.hid hn0
  have HBS := Lib.hid hbs
  have HSD := Lib.hid hsd
  have y0 : IntKind.i64.wrap 520 = 520 := rfl
  have hne : ¬ cs = 520 := by omega
  have y1 : IntKind.i64.wrap (520 + (n0 : Int)) = 520 + (n0 : Int) := IntWalk.i64_in _ (by omega)
  have i1 : (0 : Int) ≤ 520 + (n0 : Int) := by omega
  have i2 : (520 + (n0 : Int)).toNat = 520 + n0 := by omega
  have i3 : 520 + (n0 : Int) ≤ (cs : Int) := by omega
  have i4 : (520 : Int) ≤ 520 + (n0 : Int) := by omega
  have i5 : 520 + n0 ≤ cs := by omega
  clear h hl hP hlx hn0 hsl hsd hbe hbs
  go_enter Try.func77, Try.ntmps77
  go_wp2_with fail
  go_region_held3 (fun w' => w'.cell? ⟨l, 0, none⟩ = some (.pointer (some ⟨x.p, 0, none⟩)) ∧ w'.cell? ⟨l, 1, none⟩ = some (.int .i64 512) ∧ w'.cell? ⟨x.p, 0, none⟩ = some (.slice (some ⟨x.gs, 0, none⟩) L cs)) (first | exact ⟨c0, c1, d0⟩ | exact hs3 | exact hs4) ((first
    | (go_at_call 85; go_loud (refine (rl_end (HRL.out.keep ((Grow.refl w).drewN 1))).mono ?_; rintro e w3 ⟨rfl, g3'⟩; rw [← HN0.out]; have g3 : Grow w w3 := ((Grow.refl w).drewN 1).trans g3'; have hs3 := And.intro (g3.cell c0) (And.intro (g3.cell c1) (g3.cell d0))))
    | (refine step_appB rfl (.tmp 10) (.tmp 31) rfl w3.heap.size _ [] rfl (OB.nil _ _) w3.heap.size (some ⟨x.gs, 520, none⟩) (cs - 520) bs n0 HBL.out.symm (by first | rfl | exact slice_ne hne) (HSD.out.keep g3).2.2 (by rw [HBL.out]; simp; omega) (Nat.le_refl _) ?_; intro v4 w4 q1 q2; obtain ⟨A4, c4, rfl, o4⟩ := Own.ofOB q1 n0 (by rw [List.nil_append]; exact HBL.out) (by omega); have hs4 := And.intro ((show Grow w3 w4 from q2).cell hs3.1) (And.intro ((show Grow w3 w4 from q2).cell hs3.2.1) ((show Grow w3 w4 from q2).cell hs3.2.2)); clear q1)))
  all_goals
    rw [List.nil_append] at o4
    have HO4 := Lib.hid o4
    have HG4 := Lib.hid (g3.trans (show Grow w3 w4 from q2))
    have HCAP := Lib.hid o4.cap
    have hn4 : n0 ≤ c4 := o4.cap
    clear o4 g3 q2 hs3 hs4 c0 c1 d0 i1 i2 i3 i4 i5 y0 y1 HSD hne
    go_wp2_with fail
    go_loopw [5, 6] (fun tv tu wr => ReadInv w4 wr bs tv tu) (fun _ tu _ => n0 - (intOf tu).toNat)
    case atStart => exact ⟨0, 0, [], by simp, Nat.zero_le _, EachLink.start _, OW.nil _ _, by simp, rfl, Nat.le_refl _, Grow.refl _⟩
    case round =>
      obtain ⟨k, i, R, rfl, hk, hlk, how, hRL, hRi, hik, hg⟩ := hrel
      have HLK := Lib.hid hlk
      have HOW := Lib.hid how
      have HRR := Lib.hid hRL
      have HRI := Lib.hid hRi
      have HG := Lib.hid hg
      have hk' : k ≤ n0 := by have := HBL.out; omega
      clear hk hlk how hRL hRi hg
      by_cases hpos : k < n0
      · obtain ⟨g, hA, -, -⟩ := HO4.out.row (by omega)
        subst hA
        have hsd := (HO4.out.sl.keep HG.out).drop (k := k) (c := c4) (by omega) HCAP.out
        rw [if_neg (by omega), show (some (⟨g, 0, none⟩ : Addr)).map (·.add k) = some ⟨g, 0 + k, none⟩ by simp [Addr.add_lit]] at hsd
        have HSD := Lib.hid hsd
        clear hsd
        go_wp2_with fail
        simp only [Nat.zero_add] at HSD
        refine (rl_decode HSD.out (by omega)).mono ?_
        rintro e w5 ⟨v, rfl, hop, g5⟩
        obtain ⟨E, hE⟩ : ∃ E, E = dpE (bs.drop k) := ⟨_, rfl⟩
        obtain ⟨D, hD⟩ : ∃ D, D = dpU (bs.drop k) := ⟨_, rfl⟩
        rw [← hE, ← hD]
        have HE := Lib.hid hE
        have HD := Lib.hid hD
        have HG5 := Lib.hid g5
        have HOP := Lib.hid hop
        clear hE hD g5 hop
        by_cases h0 : E = 0
        · have h0' : (E != 0) = false := by rw [bne_eq_false_iff_eq]; exact h0
          have hdz : dpE (bs.drop k) = 0 := by rw [← HE.out]; exact h0
          have hst := HLK.out.step hdz
          have hup := dpU_pos hdz
          rw [← HD.out] at hst hup
          have HST := Lib.hid hst.1
          have HNTH := Lib.hid hst.2
          have hD1 : 8 ≤ D := hup.1
          have hD2 : k + D ≤ n0 := by have := hup.2.1; rw [List.length_drop, HBL.out] at this; omega
          have HBZ := Lib.hid HG.out.size
          obtain ⟨Av, cv, rfl, -⟩ := HOP.out.form
          obtain ⟨q, hq⟩ : ∃ q, q = (dpL (bs.drop k)).length := ⟨_, rfl⟩
          rw [← hq] at HOP ⊢
          have HNE := Lib.hid (show ∀ g', (Value.slice Av q cv).ownBlock = some g' → Value.ownBlock _ ≠ some g' from fun g' q1 q2 => by
            have t1 := (World.ownsRow.lt HOW.out.1 g' q2).2
            have t2 := (World.ownsRow.lt HOP.out g' q1).1
            omega)
          have HQ := Lib.hid hq
          clear hst hup hdz h0 hq
          go_wp2_with (at_builtin; go_loud (refine wpList_appW rfl (.tmp 47) (.tmp 49) rfl w4.heap.size _ R rfl ⟨.slice Av q cv, dpL (bs.drop k)⟩ _ rfl (by first | rfl | simp) (HOW.out.keep HG5.out) (HOP.out.low HBZ.out) HNE.out (by have := HRI.out; omega) (Nat.le_trans HBZ.out HG5.out.size) ?_; intro v6 w6 r1 r2 r3))
          have X : ReadInv w4 w6 bs v6 (.int .i64 ((k + D : Nat) : Int)) :=
            ⟨k + D, i + 1, R ++ [⟨.slice Av q cv, dpL (bs.drop k)⟩], rfl, by rw [HBL.out]; exact hD2, HST.out, r1, by rw [List.map_append, HRR.out, List.take_add_one, HNTH.out]; rfl, by simp [HRI.out], by omega, (HG.out.trans HG5.out).low r3⟩
          have HX := Lib.hid X
          clear X r1 r2 r3
          go_roundw
          have e5 := wrap_k (k := k) (d := D) (by omega)
          case rel => (try rw [e5]); first | exact HX.out | ((repeat apply Exists.intro); exact HX.out) | ((repeat apply Exists.intro); refine ⟨HX.out, ?_⟩; rfl)
          case measure => (have e5 := wrap_k (k := k) (d := D) (by omega)); (try rw [e5]); simp [intOf]; omega
        · have h0' : (E != 0) = true := by rw [bne_iff_ne]; exact h0
          have hdn := HLK.out.done (by rw [← HE.out]; exact h0)
          have HDN := Lib.hid hdn
          clear hdn h0
          go_wp2_with fail
          go_ret2
          exact ⟨_, R, ret_pair (by rw [lgU, ← HBS.out, HDN.out.1]), (HOW.out.keep HG5.out).low HG4.out.size, by rw [HRR.out, lgL, ← HBS.out, List.take_of_length_le (by rw [HDN.out.2]; exact Nat.le_refl _)], (HG4.out.trans HG.out).trans HG5.out⟩
      · obtain rfl : k = n0 := by omega
        have hdn := HLK.out.done (by rw [List.length_eq_zero_iff.1 (show (bs.drop k).length = 0 by rw [List.length_drop, HBL.out]; omega), dpE_nil]; simp)
        have HDN := Lib.hid hdn
        clear hdn hpos
        go_wp2_with fail
        go_ret2
        exact ⟨_, R, ret_pair (by rw [lgU, ← HBS.out, HDN.out.1]), HOW.out.low HG4.out.size, by rw [HRR.out, lgL, ← HBS.out, List.take_of_length_le (by rw [HDN.out.2]; exact Nat.le_refl _)], HG4.out.trans HG.out⟩
end Go.Proofs.Ytlinlmimakealaa
