/- The writer of package wire: numbers and texts. string(b) of bytes. The reader of package wire: a number, a text. The writer's methods. No statement of the seat is proved here. -/
import Derived.Test.YtdlcpfgogjcciaaZ07
import Derived.Test.YtdlcpfgogjcciaaZ04
import Derived.Test.YtdlcpfgogjcciaaZ03
import Derived.Laws.BytesArg
import Derived.Deep.CutBlock
import Derived.Deep.DeepCutAuto
namespace Go.Proofs.Ytdlcpfgogjcciaa
open Go.RowKit

section
variable {F : Nat → Prop} {w w' : World} {A : Option Addr} {n c : Nat} {bs : List UInt8}
theorem Turn.cellW (t : Turn F w w') {q : Addr} {v : Value} (hc : w.cell? q = some v) (hn : ¬ F q.block) : w'.cell? q = some v := (t.cell (World.block_lt_of_cell? w q hc) hn).trans hc
theorem Rd.turnW {base size : Nat} {xs : List Value} (h : Rd w base A size n xs) (t : Turn F w w') (hA : 0 < n → ∀ p, A = some p → ¬ F p.block) (hb : base ≤ w'.heap.size) : Rd w' w'.heap.size A size n xs := by
  obtain ⟨h1, h2⟩ := h
  refine ⟨h1, fun hn => ?_⟩
  obtain ⟨b, o, rfl, h3, h4⟩ := h2 hn
  exact ⟨b, o, rfl, by omega, fun j u hu => t.cellW (h4 j u hu) (hA hn ⟨b, o, none⟩ rfl)⟩
theorem Sl.turnW (h : Sl w A n bs) (t : Turn F w w') (hA : 0 < n → ∀ p, A = some p → ¬ F p.block) : Sl w' A n bs := by
  obtain ⟨h1, h2, h3⟩ := h
  refine ⟨h1, h2, ?_⟩
  have := Rd.turnW (n := bs.length) (size := 1) h3 t (by rw [h1]; exact hA) t.size
  exact this
end
/-- A writer at g: its bytes, or none. -/
structure WS (w : World) (g : Nat) (bv : Value) (o : OBs) (N : Nat) : Prop where
  blk : Row w g [bv, .bool o.isNone]
  row : ∃ A n c bs, bv = .slice A n c ∧ Sl w A n bs ∧ (0 < n → ∀ p, A = some p → p.block ≠ g) ∧ n ≤ N ∧ n ≤ c ∧ ∀ l, o = some l → l = bs
theorem WS.keep {w w' : World} {g : Nat} {bv : Value} {o : OBs} {N : Nat} (h : WS w g bv o N) (k : Grow w w') : WS w' g bv o N := by
  obtain ⟨h1, A, n, c, bs, h2, h3, h4⟩ := h
  exact ⟨h1.keep k, A, n, c, bs, h2, h3.keep k, h4⟩
/-- What numbers and text do: the writer's block alone turns. -/
def WDone (w w' : World) (g : Nat) (o : OBs) (N : Nat) : Prop := ∃ bv, WS w' g bv o N ∧ Turn (fun k => k = g) w w'
/-- The same, with bytes of the call's own. -/
def WFresh (w w' : World) (g : Nat) (o : OBs) (N : Nat) : Prop := ∃ A n c bs, WS w' g (.slice A n c) o N ∧ Turn (fun k => k = g) w w' ∧ Own w' w.heap.size A n c bs ∧ ∀ l, o = some l → l = bs
theorem WFresh.done {w w' : World} {g : Nat} {o : OBs} {N : Nat} (h : WFresh w w' g o N) : WDone w w' g o N := by
  obtain ⟨A, n, c, bs, h1, h2, -⟩ := h
  exact ⟨_, h1, h2⟩
theorem row_turnW {w w' : World} {F : Nat → Prop} {base size n : Nat} {e : TypeId} {v : Value} {xs : List Value} (h : w.ownsRow base e size v n xs) (t : Turn F w w') (hF : ∀ g, v.ownBlock = some g → ¬ F g) : w'.ownsRow base e size v n xs := by
  obtain ⟨h1, h2⟩ := h
  refine ⟨h1, ?_⟩
  rcases h2 with h2 | ⟨g, cap, cur, hv, hb, hg, h3⟩
  · exact .inl h2
  · have hlt : g < w.heap.size := (Array.getElem?_eq_some_iff.1 hg).1
    exact .inr ⟨g, cap, cur, hv, hb, (t.block g hlt (hF g (by rw [hv]; rfl))).trans hg, h3⟩
theorem Own.turnW {w w' : World} {base n c g : Nat} {A : Option Addr} {bs : List UInt8} (h : Own w base A n c bs) (t : Turn (fun k => k = g) w w') (hg : g < base) : Own w' base A n c bs :=
  ⟨h.1, h.2.1, row_turnW h.2.2 t fun k e q => by have := (World.ownsRow.lt h.2.2 k e).1; omega⟩
def NumsInv (w wr : World) (g : Nat) (o : OBs) (l : List Int) (wd N m : Nat) (i : Value) : Prop := ∃ k : Nat, i = .int .i64 (k : Int) ∧ k ≤ m ∧ WDone w wr g (pNs o (l.take k) wd) (N + 8 * k) ∧ (0 < k → WFresh w wr g (pNs o (l.take k) wd) (N + 8 * k))
theorem pNs_snoc (o : OBs) (l : List Int) (n : Int) (w : Nat) : pNs o (l ++ [n]) w = pN (pNs o l w) n w := by simp [pNs]
theorem pN_isNone (o : OBs) (n : Int) (w : Nat) : (pN o n w).isNone = (o.isNone || !fitsB n w) := by
  cases o with
  | none => rfl
  | some b =>
    unfold pN
    cases fitsB n w <;> rfl
theorem put_row {bs : List UInt8} {o : OBs} (h : ∀ l, o = some l → l = bs) (n : Int) (w : Nat) : ∀ l, pN o n w = some l → l = putB bs n w := by
  intro l hl
  obtain ⟨b, e, f, d⟩ := pN_some hl
  rw [d, h b e, putB, f, if_pos rfl, Int.toNat_natCast]
/-- num.Put at whatever number. -/
theorem put_any {A : Option Addr} {n c : Nat} {bs : List UInt8} {k : Int} {x : Nat} {w : World} (hs : Sl w A n bs) (h0 : -9223372036854775808 ≤ k) (hk : k ≤ 9223372036854775807) (hn : n ≤ 4000000000000) :
    Calls Try.prog 51 #[.slice A n c, .int .i64 k, .int .i64 (x : Int)] w fun e w' => ∃ A' n' c', e = .returned (.slice A' n' c') ∧ Own w' w.heap.size A' n' c' (putB bs k x) ∧ n' ≤ n + 8 ∧ Grow w w' := by
  obtain ⟨rfl, hl, hr⟩ := hs
  refine (num_put A bs c k x h0 hk w hr (by omega)).mono ?_
  rintro e w' ⟨v, rfl, hown, hb⟩
  have hl2 := putB_length bs k x
  obtain ⟨A', c', rfl, ho⟩ := Own.ofOB hown _ rfl (by omega)
  exact ⟨A', _, c', rfl, ho, hl2, hb⟩

theorem measV {M k : Nat} (h : k < M) : M - (intOf (.int .i64 ((k : Int) + 1))).toNat < M - (intOf (.int .i64 (k : Int))).toNat := by simp [intOf]; omega
theorem take_snoc {α : Type} {l : List α} {k : Nat} {r : α} (h : l[k]? = some r) : l.take (k + 1) = l.take k ++ [r] := by
  rw [List.take_add_one, h]; rfl
theorem Own.ne {w : World} {base n c g : Nat} {A : Option Addr} {bs : List UInt8} (h : Own w base A n c bs) (hg : g < base) : 0 < n → ∀ p, A = some p → p.block ≠ g := by
  intro h0 p hp e
  obtain ⟨g', e', h1, h2⟩ := h.row h0
  rw [e'] at hp
  injection hp with hp
  subst hp
  have e2 : g' = g := e
  omega
/-- One number more: the flag is laid, then the bytes. -/
theorem WS.step {w w6 : World} {g N n2 c2 : Nat} {bv : Value} {o o' : OBs} {A2 : Option Addr} {bs2 : List UInt8} (h : WS w g bv o N) (g6 : Grow (w.setCell ⟨g, 1, none⟩ (.bool o'.isNone)) w6) (o2 : Own w6 (w.setCell ⟨g, 1, none⟩ (.bool o'.isNone)).heap.size A2 n2 c2 bs2) (hn : n2 ≤ N + 8) (hl : ∀ l, o' = some l → l = bs2) :
    WFresh w (w6.setCell ⟨g, 0, none⟩ (.slice A2 n2 c2)) g o' (N + 8) := by
  have hg := h.blk.1.1
  have t1 : Turn (fun k => k = g) w (w.setCell ⟨g, 1, none⟩ (.bool o'.isNone)) := Turn.setCell (F := fun k => k = g) w (p := ⟨g, 1, none⟩) rfl _
  have t3 : Turn (fun k => k = g) w6 (w6.setCell ⟨g, 0, none⟩ (.slice A2 n2 c2)) := Turn.setCell (F := fun k => k = g) w6 (p := ⟨g, 0, none⟩) rfl _
  have hne := o2.ne (g := g) (by simpa using hg)
  refine ⟨A2, n2, c2, bs2, ⟨?_, A2, n2, c2, bs2, rfl, o2.sl.turnW t3 hne, hne, hn, o2.cap, hl⟩, (t1.andGrow g6).and t3, (o2.turnW t3 (by simpa using hg)).low (by simp), hl⟩
  exact ((h.blk.set (j := 1) (v := .bool o'.isNone) (by simp)).keep g6).set (j := 0) (v := .slice A2 n2 c2) (by simp)

set_option maxHeartbeats 4000000 in
set_option maxRecDepth 4000 in
theorem ww_numbers {w : World} {g N : Nat} {bv : Value} {o : OBs} (h : WS w g bv o N) {A : Option Addr} {m c : Nat} {l : List Int} (hl : RI w A m l) (hi : ∀ n ∈ l, -9223372036854775808 ≤ n ∧ n ≤ 9223372036854775807) (hA : 0 < m → ∀ p, A = some p → p.block ≠ g) (wd : Nat) (hN : N + 8 * m ≤ 3500000000000) :
    Calls Try.prog 45 #[.pointer (some ⟨g, 0, none⟩), .int .i64 (wd : Int), .slice A m c] w fun e w' => e = .returned (.tuple #[]) ∧ WDone w w' g (pNs o l wd) (N + 8 * m) ∧ (0 < m → WFresh w w' g (pNs o l wd) (N + 8 * m)) := by
  have H := Lib.hid h
  have HL := Lib.hid hl
  have HI := Lib.hid hi
  have HA := Lib.hid hA
  clear h hl hi hA
  go_enter Try.func45, Try.ntmps45
  go_wp2_with fail
  go_loopw [10] (fun i wr => NumsInv w wr g o l wd N m i) (fun i _ => m - (intOf i).toNat)
  case atStart => exact ⟨0, rfl, Nat.zero_le _, ⟨bv, H.out, Turn.refl _ _⟩, fun h => absurd h (Nat.lt_irrefl 0)⟩
  case round =>
    obtain ⟨k, rfl, hk, ⟨bvk, hws, ht⟩, hfr⟩ := hrel
    by_cases hlt : k < m
    · obtain ⟨b, o0, r, hrk, rfl, hb, c0⟩ := HL.out.at_ hlt
      have hbg : b ≠ g := HA.out (by omega) _ rfl
      have c1 := ht.cellW c0 hbg
      obtain ⟨hr1, hr2⟩ := HI.out r (List.mem_of_getElem? hrk)
      have HST := Lib.hid (show pNs o (l.take (k + 1)) wd = pN (pNs o (l.take k) wd) r wd by rw [take_snoc hrk, pNs_snoc])
      obtain ⟨ok, hok⟩ : ∃ z, z = pNs o (l.take k) wd := ⟨_, rfl⟩
      rw [← hok] at HST hws
      have HW := Lib.hid hws
      have HT := Lib.hid ht
      obtain ⟨d0, d1⟩ := hws.blk.1.c2
      have hf0 := hws.blk.2 0 (by simp)
      have hf1 := hws.blk.2 1 (by simp)
      have hlg := hws.blk.1.1
      obtain ⟨A1, n1, k1, bs1, rfl, s1, ha1, hn1, -, hb1⟩ := hws.row
      have HS1 := Lib.hid s1
      have HA1 := Lib.hid ha1
      have HB1 := Lib.hid (put_row hb1 r wd)
      have HNO := Lib.hid (pN_isNone ok r wd)
      clear hok hws ht c0 hrk s1 ha1 hb1 hfr
      obtain ⟨fl, hfl⟩ : ∃ z, z = ok.isNone := ⟨_, rfl⟩
      rw [← hfl] at d1 HNO
      clear hfl
      have FIN : ∀ (w6 : World) (A2 : Option Addr) (n2 c2 : Nat), Grow (wr.setCell ⟨g, 1, none⟩ (.bool (pN ok r wd).isNone)) w6 → Own w6 (wr.setCell ⟨g, 1, none⟩ (.bool (pN ok r wd).isNone)).heap.size A2 n2 c2 (putB bs1 r wd) → n2 ≤ n1 + 8 → NumsInv w (w6.setCell ⟨g, 0, none⟩ (.slice A2 n2 c2)) g o l wd N m (.int .i64 ((k : Int) + 1)) := by
        intro w6 A2 n2 c2 g6 o6 hn
        obtain ⟨A', n', c', bs', hws, ht, ho, hb⟩ := HW.out.step g6 o6 (by omega) HB1.out
        have hF : WFresh w (w6.setCell ⟨g, 0, none⟩ (.slice A2 n2 c2)) g (pNs o (l.take (k + 1)) wd) (N + 8 * (k + 1)) := by
          rw [HST.out]
          exact ⟨A', n', c', bs', hws, HT.out.and ht, ho.low HT.out.size, hb⟩
        exact ⟨k + 1, by simp, hlt, hF.done, fun _ => hF⟩
      have HFIN := Lib.hid FIN
      clear FIN
      have hcg : (wr.setCell ⟨g, 1, none⟩ (.bool (pN ok r wd).isNone)).cell? ⟨g, 0, none⟩ = some (.slice A1 n1 k1) := ((HW.out.blk.set (j := 1) (v := .bool (pN ok r wd).isNone) (by simp)).1.2 0 _ rfl)
      have HSW := Lib.hid (HS1.out.turnW (Turn.setCell (F := fun k => k = g) wr (p := ⟨g, 1, none⟩) rfl (.bool (pN ok r wd).isNone)) HA1.out)
      obtain ⟨flv, hflv⟩ : ∃ z, z = (pN ok r wd).isNone := ⟨_, rfl⟩
      rw [← hflv] at HFIN HNO hcg HSW
      obtain ⟨w5, hw5⟩ : ∃ z, z = wr.setCell ⟨g, 1, none⟩ (.bool flv) := ⟨_, rfl⟩
      have HW5 := Lib.hid hw5
      have HLV := Lib.hid (show w5.frozen? ⟨g, 0, none⟩ = false ∧ g < w5.heap.size by rw [hw5]; exact ⟨(HW.out.blk.set (j := 1) (v := .bool flv) (by simp)).2 0 (by simp), by simpa using hlg⟩)
      rw [← hw5] at HFIN hcg HSW
      clear hflv hw5
      have W5 : ∀ v, v = flv → wr.setCell ⟨g, 1, none⟩ (.bool v) = w5 := fun v e => by rw [e, HW5.out]
      have HW5' := Lib.hid W5
      clear W5
      cases fl with
      | true =>
        have e5 : wr.setCell ⟨g, 1, none⟩ (.bool true) = w5 := HW5'.out _ HNO.out.symm
        go_wp2_with fail
        refine (put_any HSW.out hr1 hr2 (by omega)).mono ?_
        rintro e w6 ⟨A2, n2, c2, rfl, o6, hn6, g6⟩
        have HX := Lib.hid (HFIN.out w6 A2 n2 c2 g6 o6 hn6)
        have f0 : w6.frozen? ⟨g, 0, none⟩ = false := (g6.cells.2 g 0 HLV.out.2).trans HLV.out.1
        have l0 : w6.cell? ⟨g, 0, none⟩ = some (.slice A1 n1 k1) := g6.cell hcg
        have l6 : g < w6.heap.size := Nat.lt_of_lt_of_le HLV.out.2 g6.size
        clear o6 g6 hcg e5
        go_wp2_with fail
        go_roundw
        have e5 : wrap64 ((k : Int) + 1) = (k : Int) + 1 := IntWalk.wrap64_in _ (by omega)
        case rel => (try rw [e5]); first | exact HX.out | ((repeat apply Exists.intro); exact HX.out) | ((repeat apply Exists.intro); refine ⟨HX.out, ?_⟩; rfl)
        case measure => (have e5 : wrap64 ((k : Int) + 1) = (k : Int) + 1 := IntWalk.wrap64_in _ (by omega)); first | exact measV hlt | (rw [e5]; exact measV hlt)
      | false =>
        go_wp2_with fail
        refine (num_fits r (wd : Int) hr1 hr2 _).mono ?_
        rintro e w4 ⟨rfl, rfl⟩
        have e5 : wr.setCell ⟨g, 1, none⟩ (.bool (!fitsB r (wd : Int))) = w5 := HW5'.out _ HNO.out.symm
        go_wp2_with fail
        refine (put_any HSW.out hr1 hr2 (by omega)).mono ?_
        rintro e w6 ⟨A2, n2, c2, rfl, o6, hn6, g6⟩
        have HX := Lib.hid (HFIN.out w6 A2 n2 c2 g6 o6 hn6)
        have f0 : w6.frozen? ⟨g, 0, none⟩ = false := (g6.cells.2 g 0 HLV.out.2).trans HLV.out.1
        have l0 : w6.cell? ⟨g, 0, none⟩ = some (.slice A1 n1 k1) := g6.cell hcg
        have l6 : g < w6.heap.size := Nat.lt_of_lt_of_le HLV.out.2 g6.size
        clear o6 g6 hcg e5
        go_wp2_with fail
        go_roundw
        have e5 : wrap64 ((k : Int) + 1) = (k : Int) + 1 := IntWalk.wrap64_in _ (by omega)
        case rel => (try rw [e5]); first | exact HX.out | ((repeat apply Exists.intro); exact HX.out) | ((repeat apply Exists.intro); refine ⟨HX.out, ?_⟩; rfl)
        case measure => (have e5 : wrap64 ((k : Int) + 1) = (k : Int) + 1 := IntWalk.wrap64_in _ (by omega)); first | exact measV hlt | (rw [e5]; exact measV hlt)
    · obtain rfl : k = m := by omega
      have el : l.take k = l := List.take_of_length_le (by rw [HL.out.1]; exact Nat.le_refl _)
      rw [el] at hws hfr
      have HD := Lib.hid (show WDone w wr g (pNs o l wd) (N + 8 * k) from ⟨bvk, hws, ht⟩)
      have HFR := Lib.hid hfr
      clear hws ht hfr el
      go_wp2_with fail
      go_end0
      exact ⟨rfl, HD.out, HFR.out⟩

theorem RI.litW (w : World) (l : List Int) (w' : World) (g : Grow (w.alloc (.cells (ics l).toArray 3)) w') : RI w' (some ⟨w.heap.size, 0, none⟩) l.length l := by
  refine ⟨rfl, ?_⟩
  have h := Rd.litV w 3 (ics l) 1 l.length (ics_length l)
  have h2 : Rd (w.alloc (.cells (ics l).toArray 3)) (w.alloc (.cells (ics l).toArray 3)).heap.size (some ⟨w.heap.size, 0, none⟩) 1 l.length (ics l) := by
    have e : (w.alloc (.cells (ics l).toArray 3)).heap.size = w.heap.size + 1 := by simp
    rw [e]; exact h
  exact (Rd.below h2 g).more g.size
/-- 'append' of a text, told which block grew. -/
theorem wpList_appT {w : World} {ops : Array Oper} {rest : List Oper} {o : Oper} {a : Act} {Q : Exit → Act → World → Prop} (hgd : o.guard = none) (s x : Operand)
    (ho : o.op = .call { callee := .builtin .append, args := #[s, x], argTypes := #[44, 9] })
    (base : Nat) (v : Value) (bs : List UInt8) (hs : a.eval s = v) (hown : OB w base v bs) (t : ByteArray) (hx : a.eval x = .string t)
    (h63 : bs.length + t.size ≤ 140737488355328) (hbase : base ≤ w.heap.size)
    (h : ∀ v' w', OB w' base v' (bs ++ t.data.toList) → w.grownBy w' v.ownBlock → wpList Try.prog ops Q rest (a.put o.dst v') w') : wpList Try.prog ops Q (o :: rest) a w := by
  obtain ⟨i0, hi, hz, h1, h2⟩ := info_parts byte_info
  refine Lib.wpList_append_own_string w hgd s x _ _ ho base 5 i0 Try.underlying44 Try.underlying9 hi hz h1 h2 v bs.length (bvs bs) hs hown t hx (by unfold maxLen; omega) h63 hbase ?_
  intro v' w' h3 h4 _
  refine h v' w' ?_ h4
  unfold OB
  rw [List.length_append, bvs_append, data_length]
  exact h3

theorem Row.turnW {w w' : World} {F : Nat → Prop} {g : Nat} {vs : List Value} (h : Row w g vs) (t : Turn F w w') (hg : ¬ F g) : Row w' g vs :=
  ⟨⟨Nat.lt_of_lt_of_le h.1.1 t.size, fun j v hv => t.cellW (h.1.2 j v hv) hg⟩, fun j hj => (t.frozen (p := ⟨g, j, none⟩) h.1.1 hg).trans (h.2 j hj)⟩
theorem WFresh.text {w w6 w7 : World} {g N n c : Nat} {A : Option Addr} {bs : List UInt8} {o' o'' : OBs} {v7 : Value} {s : ByteArray} (h6 : WS w6 g (.slice A n c) o' N) (t6 : Turn (fun k => k = g) w w6) (o6 : Own w6 w.heap.size A n c bs) (hg : g < w.heap.size) (hb : ∀ l, o' = some l → l = bs) (hs : s.size ≤ 1048576) (hN : N ≤ 3000000000000)
    (q1 : OB w7 w.heap.size v7 (bs ++ s.data.toList)) (q2 : w6.grownBy w7 (Value.slice A n c).ownBlock) (he : o'' = o'.map (· ++ s.data.toList)) : (∃ A7 c7, v7 = .slice A7 (n + s.size) c7) ∧ Row w7 g [.slice A n c, .bool o'.isNone] ∧ WDone w (w7.setCell ⟨g, 0, none⟩ v7) g o'' (N + s.size) := by
  have tg : Turn (fun k => (Value.slice A n c).ownBlock = some k) w6 w7 := Turn.grown q2 (fun _ h => h)
  have hng : ¬ (Value.slice A n c).ownBlock = some g := fun e => by have := (World.ownsRow.lt o6.2.2 g e).1; omega
  have hrow := h6.blk.turnW tg hng
  have hnl : n ≤ N := by
    obtain ⟨-, A', n', c', bs', e, h2, h3, h4, h5, h6⟩ := h6
    injection e with e1 e2 e3
    omega
  have hl : (bs ++ s.data.toList).length = n + s.size := by rw [List.length_append, o6.1, data_length]
  obtain ⟨A7, c7, rfl, ho7⟩ := Own.ofOB q1 _ hl (by omega)
  have t7 : Turn (fun k => k = g) w7 (w7.setCell ⟨g, 0, none⟩ (.slice A7 (n + s.size) c7)) := Turn.setCell (F := fun k => k = g) w7 (p := ⟨g, 0, none⟩) rfl _
  have hne := ho7.ne hg
  refine ⟨⟨A7, c7, rfl⟩, hrow, .slice A7 (n + s.size) c7, ⟨?_, A7, _, c7, _, rfl, ho7.sl.turnW t7 hne, hne, by omega, ho7.cap, fun l hl => ?_⟩, ?_⟩
  · have := hrow.set (j := 0) (v := .slice A7 (n + s.size) c7) (by simp)
    rw [he]
    cases o' <;> exact this
  · rw [he] at hl
    obtain ⟨l', h1, h2⟩ := Option.map_eq_some_iff.1 hl
    rw [← h2, hb l' h1]
  · exact (t6.trans tg fun i e => .inr (World.ownsRow.lt o6.2.2 i e).1).and t7

set_option maxHeartbeats 4000000 in
set_option maxRecDepth 4000 in
theorem ww_text {w : World} {g N : Nat} {bv : Value} {o : OBs} (h : WS w g bv o N) (s : ByteArray) (wd : Nat) (most : Int) (hs : s.size ≤ 1048576) (hN : N + 8 ≤ 3000000000000) :
    Calls Try.prog 70 #[.pointer (some ⟨g, 0, none⟩), .string s, .int .i64 (wd : Int), .int .i64 most] w fun e w' => e = .returned (.tuple #[]) ∧ WDone w w' g (pT o s wd most) (N + 8 + s.size) := by
  have H := Lib.hid h
  obtain ⟨d0, d1⟩ := h.blk.1.c2
  have hf0 := h.blk.2 0 (by simp)
  have hf1 := h.blk.2 1 (by simp)
  have hlg := h.blk.1.1
  obtain ⟨fl, hfl⟩ : ∃ z, z = o.isNone := ⟨_, rfl⟩
  have HNO := Lib.hid (show (gd (decide ((s.size : Int) ≤ most)) o).isNone = (o.isNone || !decide ((s.size : Int) ≤ most)) by
    unfold gd
    cases decide ((s.size : Int) ≤ most) <;> cases o <;> rfl)
  rw [← hfl] at d1 HNO
  obtain ⟨o1, ho1⟩ : ∃ z, z = gd (decide ((s.size : Int) ≤ most)) o := ⟨_, rfl⟩
  rw [← ho1] at HNO
  have HO1 := Lib.hid ho1
  have HTX := Lib.hid (show pT o s wd most = (pN o1 s.size wd).map (· ++ s.data.toList) by rw [ho1]; rfl)
  clear h hfl ho1
  -- the flag is laid
  obtain ⟨flv, hflv⟩ : ∃ z, z = o1.isNone := ⟨_, rfl⟩
  obtain ⟨w5, hw5⟩ : ∃ z, z = w.setCell ⟨g, 1, none⟩ (.bool flv) := ⟨_, rfl⟩
  have T5 := Lib.hid (show Turn (fun k => k = g) w w5 by rw [hw5]; exact Turn.setCell (F := fun k => k = g) w (p := ⟨g, 1, none⟩) rfl _)
  have H5 := Lib.hid (show WS w5 g bv o1 N by
    obtain ⟨h1, A, n, c, bs, rfl, h3, h4, h5, h6, h7⟩ := H.out
    refine ⟨?_, A, n, c, bs, rfl, h3.turnW T5.out h4, h4, h5, h6, fun l hl => h7 l ?_⟩
    · rw [hw5, hflv]; exact h1.set (j := 1) (v := .bool o1.isNone) (by simp)
    · rw [HO1.out] at hl; exact (gd_some hl).2)
  rw [← hflv] at HNO
  have W5 : ∀ v, v = flv → w.setCell ⟨g, 1, none⟩ (.bool v) = w5 := fun v e => by rw [e, hw5]
  have HW5 := Lib.hid W5
  clear W5 hw5 hflv HO1
  have HNX : ∀ wz, Grow w5 wz → Calls Try.prog 45 #[.pointer (some ⟨g, 0, none⟩), .int .i64 (wd : Int), .slice (some ⟨w5.heap.size, 0, none⟩) 1 1] (w5.alloc (.cells #[.int .i64 (s.size : Int)] 3)) fun e w' => e = .returned (.tuple #[]) ∧ WFresh w5 w' g (pN o1 s.size wd) (N + 8) := by
    intro wz gz
    have ga : Grow w5 (w5.alloc (.cells #[.int .i64 (s.size : Int)] 3)) := (Grow.refl w5).alloc _
    refine (ww_numbers (l := [(s.size : Int)]) (H5.out.keep ga) (RI.litW w5 [(s.size : Int)] _ (Grow.refl _)) (fun n hn => ?_) (fun _ p hp e => ?_) wd (by simp; omega)).mono ?_
    · rw [List.mem_singleton.1 hn]; omega
    · injection hp with hp
      subst hp
      have := H5.out.blk.1.1
      have e' : w5.heap.size = g := e
      omega
    · rintro e w' ⟨rfl, -, hf⟩
      obtain ⟨A, n, c, bs, h1, h2, h3, h4⟩ := hf (by simp)
      exact ⟨rfl, A, n, c, bs, h1, (Turn.grow ga _).and h2, h3.low (by simp), h4⟩
  have HNX' := Lib.hid HNX
  clear HNX
  go_enter Try.func70, Try.ntmps70
  cases fl with
  | true =>
    have e5 : w.setCell ⟨g, 1, none⟩ (.bool true) = w5 := HW5.out _ HNO.out.symm
    go_wp2_with fail
    refine (HNX'.out w5 (Grow.refl _)).mono ?_
    rintro e w6 ⟨rfl, A, n, c, bs, h6, t6, o6, b6⟩
    have HW6 := Lib.hid h6
    have HT6 := Lib.hid t6
    have HO6 := Lib.hid o6
    have HB6 := Lib.hid b6
    have l0 := h6.blk.1.c2.1
    have l1 : g < w5.heap.size := Nat.lt_of_lt_of_le hlg T5.out.size
    have HLB := Lib.hid (show bs.length + s.size ≤ 140737488355328 by have := o6.1; have := o6.2.1; omega)
    have HZ6 := Lib.hid t6.size
    clear h6 t6 o6 b6 e5
    go_wp2_with (at_builtin; go_loud (refine wpList_appT rfl (.tmp 31) (.tmp 32) rfl w5.heap.size _ bs rfl HO6.out.2.2 s (by first | rfl | simp) HLB.out HZ6.out ?_; intro v7 w7 q1 q2; obtain ⟨⟨A7, c7, hv7⟩, hrow, hdone⟩ := WFresh.text HW6.out HT6.out HO6.out l1 HB6.out hs (by omega) q1 q2 HTX.out; have HD := Lib.hid hdone; have f0 := hrow.1.c2.1; have f1 := hrow.2 0 (by simp); have f2 := hrow.1.1; clear hrow hdone q1 q2; subst hv7))
    go_wp2_with fail
    go_end0
    obtain ⟨bv', hw', ht'⟩ := HD.out
    exact ⟨rfl, bv', hw', T5.out.and ht'⟩
  | false =>
    have hv : decide (most < (s.size : Int)) = flv := by
      rw [HNO.out, Bool.false_or]
      by_cases hh : most < (s.size : Int)
      · rw [decide_eq_true hh, decide_eq_false (by omega)]; rfl
      · rw [decide_eq_false hh, decide_eq_true (by omega)]; rfl
    have e5 : w.setCell ⟨g, 1, none⟩ (.bool (decide (most < (s.size : Int)))) = w5 := HW5.out _ hv
    clear hv
    go_wp2_with fail
    refine (HNX'.out w5 (Grow.refl _)).mono ?_
    rintro e w6 ⟨rfl, A, n, c, bs, h6, t6, o6, b6⟩
    have HW6 := Lib.hid h6
    have HT6 := Lib.hid t6
    have HO6 := Lib.hid o6
    have HB6 := Lib.hid b6
    have l0 := h6.blk.1.c2.1
    have l1 : g < w5.heap.size := Nat.lt_of_lt_of_le hlg T5.out.size
    have HLB := Lib.hid (show bs.length + s.size ≤ 140737488355328 by have := o6.1; have := o6.2.1; omega)
    have HZ6 := Lib.hid t6.size
    clear h6 t6 o6 b6 e5
    go_wp2_with (at_builtin; go_loud (refine wpList_appT rfl (.tmp 31) (.tmp 32) rfl w5.heap.size _ bs rfl HO6.out.2.2 s (by first | rfl | simp) HLB.out HZ6.out ?_; intro v7 w7 q1 q2; obtain ⟨⟨A7, c7, hv7⟩, hrow, hdone⟩ := WFresh.text HW6.out HT6.out HO6.out l1 HB6.out hs (by omega) q1 q2 HTX.out; have HD := Lib.hid hdone; have f0 := hrow.1.c2.1; have f1 := hrow.2 0 (by simp); have f2 := hrow.1.1; clear hrow hdone q1 q2; subst hv7))
    go_wp2_with fail
    go_end0
    obtain ⟨bv', hw', ht'⟩ := HD.out
    exact ⟨rfl, bv', hw', T5.out.and ht'⟩
theorem WS.mono {w : World} {g N M : Nat} {bv : Value} {o : OBs} (h : WS w g bv o N) (k : N ≤ M) : WS w g bv o M := by
  obtain ⟨h1, A, n, c, bs, h2, h3, h4, h5, h6⟩ := h
  exact ⟨h1, A, n, c, bs, h2, h3, h4, by omega, h6⟩
theorem Blk.turnW {w w' : World} {F : Nat → Prop} {g : Nat} {vs : List Value} (h : Blk w g vs) (t : Turn F w w') (hg : ¬ F g) : Blk w' g vs :=
  ⟨Nat.lt_of_lt_of_le h.1 t.size, fun j v hv => t.cellW (h.2 j v hv) hg⟩
theorem ww_nums {w : World} {g N : Nat} {bv : Value} {o : OBs} (h : WS w g bv o N) (l : List Int) (hi : ∀ n ∈ l, -9223372036854775808 ≤ n ∧ n ≤ 9223372036854775807) (wd : Nat) (z : Int) (hz : z = (wd : Int)) (hN : N + 8 * l.length ≤ 3500000000000) (k : Nat) (hk : k = l.length) (cs : Array Value) (hcs : cs = (ics l).toArray) :
    Calls Try.prog 45 #[.pointer (some ⟨g, 0, none⟩), .int .i64 z, .slice (some ⟨w.heap.size, 0, none⟩) k k] (w.alloc (.cells cs 3)) fun e w' => e = .returned (.tuple #[]) ∧ WDone w w' g (pNs o l wd) (N + 8 * k) := by
  subst hz hk hcs
  have hg := h.blk.1.1
  have ga : Grow w (w.alloc (.cells (ics l).toArray 3)) := (Grow.refl w).alloc _
  refine (ww_numbers (l := l) (h.keep ga) (RI.litW w l _ (Grow.refl _)) hi (fun _ p hp e => ?_) wd hN).mono ?_
  · injection hp with hp
    subst hp
    have e' : w.heap.size = g := e
    omega
  · rintro e w' ⟨rfl, ⟨bv', h1, h2⟩, -⟩
    exact ⟨rfl, bv', h1, (Turn.grow ga _).and h2⟩
/-- The flag: one condition more. -/
theorem WS.flag {w : World} {g N : Nat} {bv : Value} {o : OBs} (h : WS w g bv o N) (b v : Bool) (hv : v = (gd b o).isNone) : WDone w (w.setCell ⟨g, 1, none⟩ (.bool v)) g (gd b o) N ∧ WS (w.setCell ⟨g, 1, none⟩ (.bool v)) g bv (gd b o) N ∧ Turn (fun k => k = g) w (w.setCell ⟨g, 1, none⟩ (.bool v)) := by
  have t5 : Turn (fun k => k = g) w (w.setCell ⟨g, 1, none⟩ (.bool v)) := Turn.setCell (F := fun k => k = g) w (p := ⟨g, 1, none⟩) rfl _
  have h5 : WS (w.setCell ⟨g, 1, none⟩ (.bool v)) g bv (gd b o) N := by
    obtain ⟨h1, A, n, c, bs, rfl, h3, h4, h5, h6, h7⟩ := h
    refine ⟨?_, A, n, c, bs, rfl, h3.turnW t5 h4, h4, h5, h6, fun l hl => h7 l (gd_some hl).2⟩
    rw [hv]
    exact h1.set (j := 1) (v := .bool (gd b o).isNone) (by simp)
  exact ⟨⟨bv, h5, t5⟩, h5, t5⟩
theorem gd_isNone (b : Bool) (o : OBs) : (gd b o).isNone = (o.isNone || !b) := by
  unfold gd
  cases b <;> cases o <;> rfl
end Go.Proofs.Ytdlcpfgogjcciaa

namespace Go.Proofs.Ytdlcpfgogjcciaa
open Go.RowKit

theorem strOf_bytes (bs : List UInt8) : strOfNums (bs.map fun u => (u.toNat : Int)) = ⟨bs.toArray⟩ := by
  unfold strOfNums
  congr 1
  simp [Function.comp_def]

/-- string(b). -/
theorem conv_s {A : Option Addr} {n c : Nat} {bs : List UInt8} {w : World} (h : Sl w A n bs) : (convert 44 9 (.slice A n c)).run Try.prog w = .ok (.string ⟨bs.toArray⟩) w := by
  rcases Nat.eq_zero_or_pos n with hn | hn
  · subst hn
    obtain rfl : bs = [] := List.eq_nil_of_length_eq_zero h.1
    rcases A with _ | a
    · exact run_convert_bytes_nil w 44 5 Try.underlying44 Try.underlying5 0 c _ Try.underlying9
    · rw [run_convert_bytes_string w 44 9 5 _ 0 c Try.underlying44 Try.underlying5 Try.underlying9]
      simp [Conv.bytesToString, loadCells]
      rfl
  · obtain ⟨b, o, rfl, hb, hc⟩ := h.all hn
    have := run_convert_bytes_arg (P := Try.prog) w 44 5 Try.underlying44 Try.underlying5 b o n c (bs.map fun u => (u.toNat : Int)) (by simp [h.1])
      (fun i hi => by rw [hc i hi, List.getD_eq_getElem?_getD, List.getElem?_map, List.getElem?_eq_getElem (by rw [h.1]; exact hi)]; rfl) _ Try.underlying9
    rw [strOf_bytes] at this
    exact this

end Go.Proofs.Ytdlcpfgogjcciaa

namespace Go.Proofs.Ytdlcpfgogjcciaa
open Go.RowKit

/-- A reader at g: the bytes that are left, or none; they lie below B. -/
structure DS (w : World) (g B : Nat) (bv : Value) (o : OBs) : Prop where
  blk : Row w g [bv, .bool o.isNone]
  low : B ≤ g
  row : ∃ A n c bs, bv = .slice A n c ∧ Sl w A n bs ∧ n ≤ c ∧ (0 < n → ∀ p, A = some p → p.block < B) ∧ ∀ l, o = some l → l = bs
theorem DS.keep {w w' : World} {g B : Nat} {bv : Value} {o : OBs} (h : DS w g B bv o) (k : Grow w w') : DS w' g B bv o := by
  obtain ⟨h1, h0, A, n, c, bs, h2, h3, h4⟩ := h
  exact ⟨h1.keep k, h0, A, n, c, bs, h2, h3.keep k, h4⟩
def DDone (w w' : World) (g B : Nat) (o : OBs) : Prop := ∃ bv, DS w' g B bv o ∧ Turn (fun k => k = g) w w'
/-- The reader is spoilt. -/
theorem DS.odd {w : World} {g B : Nat} {bv : Value} {o : OBs} (h : DS w g B bv o) : DDone w (w.setCell ⟨g, 1, none⟩ (.bool true)) g B none := by
  obtain ⟨h1, h0, A, n, c, bs, rfl, h3, h4, h5, -⟩ := h
  have t5 : Turn (fun k => k = g) w (w.setCell ⟨g, 1, none⟩ (.bool true)) := Turn.setCell (F := fun k => k = g) w (p := ⟨g, 1, none⟩) rfl _
  exact ⟨_, ⟨h1.set (j := 1) (v := .bool true) (by simp), h0, A, n, c, bs, rfl, h3.turnW t5 (fun h p hp e => by have := h5 h p hp; have e' : p.block = g := e; omega), h4, h5, fun l hl => by cases hl⟩, t5⟩
/-- Bytes are cut off. -/
theorem DS.cut {w : World} {g B n c : Nat} {A : Option Addr} {l : List UInt8} (h : DS w g B (.slice A n c) (some l)) {k : Nat} (hk : k ≤ n) : DDone w (w.setCell ⟨g, 0, none⟩ (.slice (if c = k then A else A.map (·.add k)) (n - k) (c - k))) g B (some (l.drop k)) := by
  obtain ⟨h1, h0, A', n', c', bs, e, h3, h4, h5, h6⟩ := h
  injection e with e1 e2 e3
  subst e1 e2 e3
  obtain rfl := h6 l rfl
  have t5 : Turn (fun k => k = g) w (w.setCell ⟨g, 0, none⟩ (.slice (if c = k then A else A.map (·.add k)) (n - k) (c - k))) := Turn.setCell (F := fun k => k = g) w (p := ⟨g, 0, none⟩) rfl _
  have hb : 0 < n - k → ∀ p, (if c = k then A else A.map (·.add k)) = some p → p.block < B := by
    intro hn p hp
    split at hp
    · exact h5 (by omega) p hp
    · cases A with
      | none => cases hp
      | some a =>
        injection hp with hp
        subst hp
        have h8 : a.block < B := h5 (show 0 < n by omega) a rfl
        have h9 : (a.add k).block = a.block := by unfold Addr.add; split <;> rfl
        show (a.add k).block < B
        rw [h9]
        exact h8
  exact ⟨_, ⟨h1.set (j := 0) (v := .slice (if c = k then A else A.map (·.add k)) (n - k) (c - k)) (by simp), h0, _, _, _, _, rfl, (h3.drop hk h4).turnW t5 (fun h p hp e => by have := hb h p hp; have e' : p.block = g := e; omega), by omega, hb, fun l hl => by injection hl with hl; exact hl.symm⟩, t5⟩
set_option maxHeartbeats 8000000 in
set_option maxRecDepth 8000 in
theorem rd_number {w : World} {g B : Nat} {bv : Value} {o : OBs} (h : DS w g B bv o) (wd : Nat) (hw : wd = 1 ∨ wd = 2 ∨ wd = 4 ∨ wd = 8) (z : Int) (hz : z = (wd : Int)) :
    Calls Try.prog 75 #[.pointer (some ⟨g, 0, none⟩), .int .i64 z] w fun e w' => e = .returned (.int .i64 (rN o wd)) ∧ DDone w w' g B (rNr o wd) := by
  subst hz
  obtain ⟨A, n, c, bs, rfl, hs, hc, -, hl⟩ := h.row
  have H := Lib.hid h
  have HS := Lib.hid hs
  obtain ⟨d0, d1⟩ := h.blk.1.c2
  have hf0 := h.blk.2 0 (by simp)
  have hf1 := h.blk.2 1 (by simp)
  have hlg := h.blk.1.1
  have HL := Lib.hid hl
  have hw8 : wd ≤ 8 := by omega
  obtain ⟨fl, hfl⟩ : ∃ z, z = o.isNone := ⟨_, rfl⟩
  rw [← hfl] at d1
  have HFL := Lib.hid hfl
  clear h hs hl hfl
  go_enter Try.func75, Try.ntmps75
  go_wp2_with fail
  refine (get_s HS.out (by decide) (by decide)).mono ?_
  rintro e w1 ⟨rfl, rfl⟩
  obtain ⟨q, hq⟩ : ∃ q, q = getN bs 0 (wd : Int) := ⟨_, rfl⟩
  rw [← hq]
  have HQ := Lib.hid hq
  clear hq
  cases hk : getK bs 0 (wd : Int) with
  | false =>
    have HN := Lib.hid (show rN o wd = 0 ∧ rNr o wd = none by
      cases o with
      | none => exact ⟨rfl, rfl⟩
      | some l =>
        obtain rfl := HL.out l rfl
        refine ⟨?_, ?_⟩
        · show (if getK l 0 wd = true then getN l 0 wd else 0) = 0
          rw [hk]; rfl
        · show (if getK l 0 wd = true then some (l.drop wd) else none) = none
          rw [hk]; rfl)
    have HD := Lib.hid H.out.odd
    clear hk
    go_wp2_with fail
    go_ret
    exact ⟨by rw [HN.out.1]; rfl, by rw [HN.out.2]; exact HD.out⟩
  | true =>
    cases fl with
    | true =>
      have HN := Lib.hid (show rN o wd = 0 ∧ rNr o wd = none by
        cases o with
        | none => exact ⟨rfl, rfl⟩
        | some l => have := HFL.out; cases this)
      have HD := Lib.hid H.out.odd
      clear hk
      go_wp2_with fail
      go_ret
      exact ⟨by rw [HN.out.1]; rfl, by rw [HN.out.2]; exact HD.out⟩
    | false =>
      obtain ⟨l, rfl⟩ : ∃ l, o = some l := by
        cases o with
        | none => have := HFL.out; cases this
        | some l => exact ⟨l, rfl⟩
      obtain rfl := HL.out l rfl
      have hwn : wd ≤ n := by
        have := getK_range (a := 0) hk
        have := HS.out.1
        omega
      have HN := Lib.hid (show rN (some l) wd = q ∧ rNr (some l) wd = some (l.drop wd) by
        refine ⟨?_, ?_⟩
        · show (if getK l 0 wd = true then getN l 0 wd else 0) = q
          rw [hk, if_pos rfl, HQ.out]
        · show (if getK l 0 wd = true then some (l.drop wd) else none) = _
          rw [hk, if_pos rfl])
      have HD := Lib.hid (H.out.cut hwn)
      clear hk
      by_cases hcw : c = wd
      · subst hcw
        obtain rfl : n = c := by omega
        rw [if_pos rfl, Nat.sub_self] at HD
        go_wp2_with fail
        go_ret
        exact ⟨by rw [HN.out.1]; rfl, by rw [HN.out.2]; exact HD.out⟩
      · rw [if_neg hcw] at HD
        go_wp2_with fail
        go_ret
        exact ⟨by rw [HN.out.1]; rfl, by rw [HN.out.2]; exact HD.out⟩
theorem rN_range (o : OBs) (wd : Nat) : 0 ≤ rN o wd ∧ rN o wd ≤ 9223372036854775807 := by
  cases o with
  | none =>
    show (0 : Int) ≤ 0 ∧ (0 : Int) ≤ 9223372036854775807
    decide
  | some b =>
    show 0 ≤ (if getK b 0 wd = true then getN b 0 wd else 0) ∧ (if getK b 0 wd = true then getN b 0 wd else 0) ≤ _
    split
    · exact get_any b 0 wd
    · exact ⟨Int.le_refl _, by decide⟩
set_option maxHeartbeats 8000000 in
set_option maxRecDepth 8000 in
theorem rd_text {w : World} {g B : Nat} {bv : Value} {o : OBs} (h : DS w g B bv o) (wd : Nat) (hw : wd = 1 ∨ wd = 2 ∨ wd = 4 ∨ wd = 8) (z : Int) (hz : z = (wd : Int)) (most : Int) :
    Calls Try.prog 98 #[.pointer (some ⟨g, 0, none⟩), .int .i64 z, .int .i64 most] w fun e w' => e = .returned (.string (rTs o wd most)) ∧ DDone w w' g B (rTr o wd most) := by
  subst hz
  have H0 := Lib.hid h
  have HWD := Lib.hid hw
  clear h hw
  go_enter Try.func98, Try.ntmps98
  go_wp2_with fail
  refine (rd_number H0.out wd HWD.out _ rfl).mono ?_
  rintro e w1 ⟨rfl, bv1, h1, t1⟩
  obtain ⟨A, n, c, bs, rfl, hs, hc, -, hl⟩ := h1.row
  obtain ⟨m, hm⟩ : ∃ m : Nat, rN o wd = (m : Int) := ⟨(rN o wd).toNat, by have := rN_range o wd; omega⟩
  have hm9 : (m : Int) ≤ 9223372036854775807 := by have := rN_range o wd; omega
  rw [hm]
  have HM := Lib.hid hm
  have H1 := Lib.hid h1
  have T1 := Lib.hid t1
  have HS := Lib.hid hs
  have HL := Lib.hid hl
  obtain ⟨d0, d1⟩ := h1.blk.1.c2
  have hf0 := h1.blk.2 0 (by simp)
  have hf1 := h1.blk.2 1 (by simp)
  have hlg := h1.blk.1.1
  obtain ⟨s, hs0⟩ : ∃ s, s = rNr o wd := ⟨_, rfl⟩
  rw [← hs0] at H1 HL d1
  have HS0 := Lib.hid hs0
  clear h1 t1 hs hl hm hs0
  have BAD : (∀ b, s = some b → ¬ ((m : Int) ≤ most ∧ (m : Int) ≤ b.length)) → Hid ((rTs o wd most = ⟨#[]⟩ ∧ rTr o wd most = none) ∧ DDone w (w1.setCell ⟨g, 1, none⟩ (.bool true)) g B none) := by
    intro hb
    refine Lib.hid ⟨?_, ?_⟩
    · unfold rTs rTr
      rw [← HS0.out]
      cases s with
      | none => exact ⟨rfl, rfl⟩
      | some b =>
        have := hb b rfl
        rw [HM.out]
        simp only [Option.elim_some, Option.bind_some]
        rw [if_neg this, if_neg this]
        exact ⟨rfl, rfl⟩
    · obtain ⟨b, h1, h2⟩ := H1.out.odd
      exact ⟨b, h1, T1.out.and h2⟩
  by_cases hmost : most < (m : Int)
  · have HB := BAD fun b _ q => by omega
    clear BAD
    have z1 : decide (most < (m : Int)) = true := decide_eq_true hmost
    go_wp2_with fail
    go_ret
    exact ⟨by rw [HB.out.1.1]; rfl, by rw [HB.out.1.2]; exact HB.out.2⟩
  have z1 : decide (most < (m : Int)) = false := decide_eq_false hmost
  by_cases hlen : n < m
  · have HB := BAD fun b hb q => by have := HL.out b hb; subst this; have := HS.out.1; omega
    clear BAD
    have z2 : decide (n < m) = true := decide_eq_true hlen
    have z3 : decide ((n : Int) < (m : Int)) = true := decide_eq_true (by omega)
    go_wp2_with fail
    go_ret
    exact ⟨by rw [HB.out.1.1]; rfl, by rw [HB.out.1.2]; exact HB.out.2⟩
  have z2 : decide (n < m) = false := decide_eq_false hlen
  have z3 : decide ((n : Int) < (m : Int)) = false := decide_eq_false (by omega)
  cases s with
  | none =>
    have HB := BAD fun b hb => by cases hb
    clear BAD
    have d1' : w1.cell? ⟨g, 1, none⟩ = some (.bool true) := d1
    clear d1
    go_wp2_with fail
    go_ret
    exact ⟨by rw [HB.out.1.1]; rfl, by rw [HB.out.1.2]; exact HB.out.2⟩
  | some l =>
    clear BAD
    obtain rfl := HL.out l rfl
    have d1' : w1.cell? ⟨g, 1, none⟩ = some (.bool false) := d1
    clear d1
    have hmn : m ≤ n := by omega
    have HT := Lib.hid (HS.out.take hmn)
    have HD := Lib.hid (H1.out.cut hmn)
    have HN := Lib.hid (show rTs o wd most = ⟨(l.take m).toArray⟩ ∧ rTr o wd most = some (l.drop m) by
      unfold rTs rTr
      rw [← HS0.out, HM.out]
      have hc : (m : Int) ≤ most ∧ (m : Int) ≤ l.length := ⟨by omega, by have := HS.out.1; omega⟩
      simp only [Option.elim_some, Option.bind_some]
      rw [if_pos hc, if_pos hc, Int.toNat_natCast]
      exact ⟨rfl, rfl⟩)
    have kc := conv_s (c := c) HT.out
    by_cases hcm : c = m
    · subst hcm
      obtain rfl : n = c := by omega
      rw [if_pos rfl, Nat.sub_self] at HD
      go_wp2_with fail
      go_ret
      obtain ⟨b, h1, h2⟩ := HD.out
      exact ⟨by rw [HN.out.1]; rfl, by rw [HN.out.2]; exact ⟨b, h1, T1.out.and h2⟩⟩
    · rw [if_neg hcm] at HD
      go_wp2_with fail
      go_ret
      obtain ⟨b, h1, h2⟩ := HD.out
      exact ⟨by rw [HN.out.1]; rfl, by rw [HN.out.2]; exact ⟨b, h1, T1.out.and h2⟩⟩
end Go.Proofs.Ytdlcpfgogjcciaa

namespace Go.Proofs.Ytdlcpfgogjcciaa
open Go.RowKit

/-- A packet's cells. -/
def PK.cells (p : PK) (nv : Value) : List Value := [.int .i64 p.kind, .int .i64 p.client, .int .i64 p.epoch, .int .i64 p.seq, .int .i64 p.op, .int .i64 p.at_, .int .i64 p.n, .string p.data, .int .i64 p.old, .int .i64 p.new, .int .i64 p.ckind, .string p.path, .string p.path2, .int .i64 p.flags, .int .i64 p.cfd, .int .i64 p.coff, .int .i64 p.cn, .string p.cdata, .int .i64 p.ino, .int .i64 p.errno, .int .i64 p.rerrno, .int .i64 p.rfd, .string p.rdata, nv, .int .i64 p.ikind, .int .i64 p.ilinks, .int .i64 p.isize, .int .i64 p.wrote, .int .i64 p.nkind, .int .i64 p.nlinks, .int .i64 p.nsize, .int .i64 p.b0, .int .i64 p.b1, .int .i64 p.b2, .int .i64 p.b3, .int .i64 p.o0, .int .i64 p.o1, .int .i64 p.o2, .int .i64 p.o3, .int .i64 p.o4, .int .i64 p.o5, .int .i64 p.o6, .int .i64 p.o7]
/-- Numbers that a machine holds; texts and names that are few. -/
def i64B (n : Int) : Prop := -9223372036854775808 ≤ n ∧ n ≤ 9223372036854775807
structure PK.ok (p : PK) : Prop where
  kind : i64B p.kind
  client : i64B p.client
  epoch : i64B p.epoch
  seq : i64B p.seq
  op : i64B p.op
  at_ : i64B p.at_
  n : i64B p.n
  data : p.data.size ≤ 1048576
  old : i64B p.old
  new : i64B p.new
  ckind : i64B p.ckind
  path : p.path.size ≤ 1048576
  path2 : p.path2.size ≤ 1048576
  flags : i64B p.flags
  cfd : i64B p.cfd
  coff : i64B p.coff
  cn : i64B p.cn
  ino : i64B p.ino
  errno : i64B p.errno
  rerrno : i64B p.rerrno
  rfd : i64B p.rfd
  names : p.names.length ≤ 1048576 ∧ ∀ s ∈ p.names, s.size ≤ 1048576
  ikind : i64B p.ikind
  ilinks : i64B p.ilinks
  isize : i64B p.isize
  wrote : i64B p.wrote
  nkind : i64B p.nkind
  nlinks : i64B p.nlinks
  nsize : i64B p.nsize
  b0 : i64B p.b0
  b1 : i64B p.b1
  b2 : i64B p.b2
  b3 : i64B p.b3
  o0 : i64B p.o0
  o1 : i64B p.o1
  o2 : i64B p.o2
  o3 : i64B p.o3
  o4 : i64B p.o4
  o5 : i64B p.o5
  o6 : i64B p.o6
  o7 : i64B p.o7
theorem one_mem {n : Int} (h : i64B n) : ∀ m ∈ [n], -9223372036854775808 ≤ m ∧ m ≤ 9223372036854775807 := fun m hm => by rw [List.mem_singleton.1 hm]; exact h
theorem cons_mem {n : Int} {l : List Int} (h : i64B n) (k : ∀ m ∈ l, -9223372036854775808 ≤ m ∧ m ≤ 9223372036854775807) : ∀ m ∈ n :: l, -9223372036854775808 ≤ m ∧ m ≤ 9223372036854775807 := fun m hm => by
  rcases List.mem_cons.1 hm with rfl | hm
  · exact h
  · exact k m hm
theorem wboxed {w : World} {g N : Nat} {bv : Value} {o : OBs} (h : WS w g bv o N) (p : PK) (nv : Value) : ∃ w1 x, w1 = w.alloc (.cells #[.int .i64 p.kind, .int .i64 p.client, .int .i64 p.epoch, .int .i64 p.seq, .int .i64 p.op, .int .i64 p.at_, .int .i64 p.n, .string p.data, .int .i64 p.old, .int .i64 p.new, .int .i64 p.ckind, .string p.path, .string p.path2, .int .i64 p.flags, .int .i64 p.cfd, .int .i64 p.coff, .int .i64 p.cn, .string p.cdata, .int .i64 p.ino, .int .i64 p.errno, .int .i64 p.rerrno, .int .i64 p.rfd, .string p.rdata, nv, .int .i64 p.ikind, .int .i64 p.ilinks, .int .i64 p.isize, .int .i64 p.wrote, .int .i64 p.nkind, .int .i64 p.nlinks, .int .i64 p.nsize, .int .i64 p.b0, .int .i64 p.b1, .int .i64 p.b2, .int .i64 p.b3, .int .i64 p.o0, .int .i64 p.o1, .int .i64 p.o2, .int .i64 p.o3, .int .i64 p.o4, .int .i64 p.o5, .int .i64 p.o6, .int .i64 p.o7] 36) ∧ x = w.heap.size ∧ WS w1 g bv o N ∧ Blk w1 x (p.cells nv) ∧ ¬ x = g ∧ Grow w w1 ∧ g < w1.heap.size ∧ x < w1.heap.size := by
  have hg := h.blk.1.1
  have hb := Blk.new w 36 (p.cells nv) #[.int .i64 p.kind, .int .i64 p.client, .int .i64 p.epoch, .int .i64 p.seq, .int .i64 p.op, .int .i64 p.at_, .int .i64 p.n, .string p.data, .int .i64 p.old, .int .i64 p.new, .int .i64 p.ckind, .string p.path, .string p.path2, .int .i64 p.flags, .int .i64 p.cfd, .int .i64 p.coff, .int .i64 p.cn, .string p.cdata, .int .i64 p.ino, .int .i64 p.errno, .int .i64 p.rerrno, .int .i64 p.rfd, .string p.rdata, nv, .int .i64 p.ikind, .int .i64 p.ilinks, .int .i64 p.isize, .int .i64 p.wrote, .int .i64 p.nkind, .int .i64 p.nlinks, .int .i64 p.nsize, .int .i64 p.b0, .int .i64 p.b1, .int .i64 p.b2, .int .i64 p.b3, .int .i64 p.o0, .int .i64 p.o1, .int .i64 p.o2, .int .i64 p.o3, .int .i64 p.o4, .int .i64 p.o5, .int .i64 p.o6, .int .i64 p.o7] (0, 0) rfl
  have ga := (Grow.refl w).alloc (.cells #[.int .i64 p.kind, .int .i64 p.client, .int .i64 p.epoch, .int .i64 p.seq, .int .i64 p.op, .int .i64 p.at_, .int .i64 p.n, .string p.data, .int .i64 p.old, .int .i64 p.new, .int .i64 p.ckind, .string p.path, .string p.path2, .int .i64 p.flags, .int .i64 p.cfd, .int .i64 p.coff, .int .i64 p.cn, .string p.cdata, .int .i64 p.ino, .int .i64 p.errno, .int .i64 p.rerrno, .int .i64 p.rfd, .string p.rdata, nv, .int .i64 p.ikind, .int .i64 p.ilinks, .int .i64 p.isize, .int .i64 p.wrote, .int .i64 p.nkind, .int .i64 p.nlinks, .int .i64 p.nsize, .int .i64 p.b0, .int .i64 p.b1, .int .i64 p.b2, .int .i64 p.b3, .int .i64 p.o0, .int .i64 p.o1, .int .i64 p.o2, .int .i64 p.o3, .int .i64 p.o4, .int .i64 p.o5, .int .i64 p.o6, .int .i64 p.o7] 36)
  exact ⟨_, _, rfl, rfl, h.keep ga, hb, by omega, ga, Nat.lt_of_lt_of_le hg ga.size, hb.1⟩
theorem w_verb (op : Int) (w : World) : Calls Try.prog 69 #[.int .i64 op] w fun e w' => e = .returned (.bool (verbB op)) ∧ w = w' := by
  go_enter Try.func69, Try.ntmps69
  go_wp2
  all_goals (go_ret; refine ⟨ret_bool ?_, rfl⟩)
  all_goals (rw [Bool.eq_iff_iff]; simp [verbB])
  all_goals omega

set_option maxHeartbeats 8000000 in
set_option maxRecDepth 8000 in
theorem ww_recall {w : World} {g N : Nat} {bv : Value} {o : OBs} (h : WS w g bv o N) (p : PK) (nv : Value) (hp : p.ok) (hN : N ≤ 10000) :
    Calls Try.prog 46 #[.pointer (some ⟨g, 0, none⟩), .agg #[.int .i64 p.kind, .int .i64 p.client, .int .i64 p.epoch, .int .i64 p.seq, .int .i64 p.op, .int .i64 p.at_, .int .i64 p.n, .string p.data, .int .i64 p.old, .int .i64 p.new, .int .i64 p.ckind, .string p.path, .string p.path2, .int .i64 p.flags, .int .i64 p.cfd, .int .i64 p.coff, .int .i64 p.cn, .string p.cdata, .int .i64 p.ino, .int .i64 p.errno, .int .i64 p.rerrno, .int .i64 p.rfd, .string p.rdata, nv, .int .i64 p.ikind, .int .i64 p.ilinks, .int .i64 p.isize, .int .i64 p.wrote, .int .i64 p.nkind, .int .i64 p.nlinks, .int .i64 p.nsize, .int .i64 p.b0, .int .i64 p.b1, .int .i64 p.b2, .int .i64 p.b3, .int .i64 p.o0, .int .i64 p.o1, .int .i64 p.o2, .int .i64 p.o3, .int .i64 p.o4, .int .i64 p.o5, .int .i64 p.o6, .int .i64 p.o7]] w fun e w' => e = .returned (.tuple #[]) ∧ WDone w w' g (bRecall p o) (N + 8) := by
  obtain ⟨w1, x, hw1, hx, h1, b1, hxg, g1, hl1, hlx⟩ := wboxed h p nv
  have HP := Lib.hid hp
  have HW0 := Lib.hid h1
  have BX0 := Lib.hid b1
  have HT0 := Lib.hid (Turn.grow g1 (fun k => k = g))
  clear h hp h1 b1 g1
  go_enter Try.func46, Try.ntmps46
  go_upto_region 1 with (fail)
  rw [← hw1, ← hx]
  clear hw1 hx
  have c18 := BX0.out.2 18 _ rfl
  go_wp2_with fail
  refine (ww_nums HW0.out [p.ino] (one_mem HP.out.ino) 1 1 rfl (by have := HP.out.data; have := HP.out.path; have := HP.out.path2; simp; omega) 1 rfl _ rfl).mono ?_
  rintro e v1 ⟨rfl, bv1, h2, t2⟩
  have HW1 := Lib.hid (show WS v1 g bv1 (pN o p.ino 1) (N + 8 * 1) from h2)
  have HT1 := Lib.hid (HT0.out.and t2)
  have BX1 := Lib.hid (BX0.out.turnW t2 hxg)
  replace hl1 := Nat.lt_of_lt_of_le hl1 t2.size
  replace hlx := Nat.lt_of_lt_of_le hlx t2.size
  clear h2 t2 c18 BX0 HW0 HT0
  go_wp2_with fail
  go_end0
  exact ⟨rfl, _, HW1.out.mono (by have := HP.out.data; have := HP.out.path; have := HP.out.path2; omega), HT1.out⟩

set_option maxHeartbeats 8000000 in
set_option maxRecDepth 8000 in
theorem ww_verbAsk {w : World} {g N : Nat} {bv : Value} {o : OBs} (h : WS w g bv o N) (p : PK) (nv : Value) (hp : p.ok) (hN : N ≤ 10000) :
    Calls Try.prog 47 #[.pointer (some ⟨g, 0, none⟩), .agg #[.int .i64 p.kind, .int .i64 p.client, .int .i64 p.epoch, .int .i64 p.seq, .int .i64 p.op, .int .i64 p.at_, .int .i64 p.n, .string p.data, .int .i64 p.old, .int .i64 p.new, .int .i64 p.ckind, .string p.path, .string p.path2, .int .i64 p.flags, .int .i64 p.cfd, .int .i64 p.coff, .int .i64 p.cn, .string p.cdata, .int .i64 p.ino, .int .i64 p.errno, .int .i64 p.rerrno, .int .i64 p.rfd, .string p.rdata, nv, .int .i64 p.ikind, .int .i64 p.ilinks, .int .i64 p.isize, .int .i64 p.wrote, .int .i64 p.nkind, .int .i64 p.nlinks, .int .i64 p.nsize, .int .i64 p.b0, .int .i64 p.b1, .int .i64 p.b2, .int .i64 p.b3, .int .i64 p.o0, .int .i64 p.o1, .int .i64 p.o2, .int .i64 p.o3, .int .i64 p.o4, .int .i64 p.o5, .int .i64 p.o6, .int .i64 p.o7]] w fun e w' => e = .returned (.tuple #[]) ∧ WDone w w' g (bAsk p o) (N + 1100000) := by
  obtain ⟨w1, x, hw1, hx, h1, b1, hxg, g1, hl1, hlx⟩ := wboxed h p nv
  have HP := Lib.hid hp
  have HW0 := Lib.hid h1
  have BX0 := Lib.hid b1
  have HT0 := Lib.hid (Turn.grow g1 (fun k => k = g))
  clear h hp h1 b1 g1
  go_enter Try.func47, Try.ntmps47
  go_upto_region 1 with (fail)
  rw [← hw1, ← hx]
  clear hw1 hx
  go_cut [0] (fun v wx => v = .pointer (some ⟨g, 0, none⟩) ∧ ∃ bv', WS wx g bv' (gd (verbB p.op) o) N ∧ Turn (fun k => k = g) w1 wx)
  case first =>
    obtain ⟨d0, d1⟩ := HW0.out.blk.1.c2
    have hf1 := HW0.out.blk.2 1 (by simp)
    have c4 := BX0.out.2 4 _ rfl
    obtain ⟨fl, hfl⟩ : ∃ z, z = o.isNone := ⟨_, rfl⟩
    rw [← hfl] at d1
    have HFL := Lib.hid hfl
    clear hfl
    cases fl with
    | true =>
      have HY := Lib.hid (HW0.out.flag (verbB p.op) true (by rw [gd_isNone, ← HFL.out]; rfl))
      go_wp2_with fail
      go_meet
      exact ⟨rfl, _, HY.out.2.1, HY.out.2.2⟩
    | false =>
      have HY := Lib.hid (HW0.out.flag (verbB p.op) (!verbB p.op) (by rw [gd_isNone, ← HFL.out]; rfl))
      go_wp2_with fail
      refine (w_verb p.op _).mono ?_
      rintro e w4 ⟨rfl, rfl⟩
      go_wp2_with fail
      go_meet
      exact ⟨rfl, _, HY.out.2.1, HY.out.2.2⟩
  case rest =>
    obtain ⟨rfl, bv1, h2, t2⟩ := hcut
    have HW1 := Lib.hid h2
    have HT1 := Lib.hid (HT0.out.and t2)
    have BX1 := Lib.hid (BX0.out.turnW t2 hxg)
    replace hl1 := Nat.lt_of_lt_of_le hl1 t2.size
    replace hlx := Nat.lt_of_lt_of_le hlx t2.size
    clear h2 t2 BX0 HW0 HT0
    have c4 := BX1.out.2 4 _ rfl
    go_wp2_with fail
    refine (ww_nums HW1.out [p.op] (one_mem HP.out.op) 1 1 rfl (by have := HP.out.data; have := HP.out.path; have := HP.out.path2; simp; omega) 1 rfl _ rfl).mono ?_
    rintro e v2 ⟨rfl, bv2, h2, t2⟩
    have HW2 := Lib.hid (show WS v2 g bv2 (pN (gd (verbB p.op) o) p.op 1) (N + 8 * 1) from h2)
    have HT2 := Lib.hid (HT1.out.and t2)
    have BX2 := Lib.hid (BX1.out.turnW t2 hxg)
    replace hl1 := Nat.lt_of_lt_of_le hl1 t2.size
    replace hlx := Nat.lt_of_lt_of_le hlx t2.size
    clear h2 t2 c4 BX1 HW1 HT1
    have c5 := BX2.out.2 5 _ rfl
    go_wp2_with fail
    refine (ww_nums HW2.out [p.at_] (one_mem HP.out.at_) 4 4 rfl (by have := HP.out.data; have := HP.out.path; have := HP.out.path2; simp; omega) 1 rfl _ rfl).mono ?_
    rintro e v3 ⟨rfl, bv3, h2, t2⟩
    have HW3 := Lib.hid (show WS v3 g bv3 (pN (pN (gd (verbB p.op) o) p.op 1) p.at_ 4) ((N + 8 * 1) + 8 * 1) from h2)
    have HT3 := Lib.hid (HT2.out.and t2)
    have BX3 := Lib.hid (BX2.out.turnW t2 hxg)
    replace hl1 := Nat.lt_of_lt_of_le hl1 t2.size
    replace hlx := Nat.lt_of_lt_of_le hlx t2.size
    clear h2 t2 c5 BX2 HW2 HT2
    have c6 := BX3.out.2 6 _ rfl
    go_wp2_with fail
    refine (ww_nums HW3.out [p.n] (one_mem HP.out.n) 2 2 rfl (by have := HP.out.data; have := HP.out.path; have := HP.out.path2; simp; omega) 1 rfl _ rfl).mono ?_
    rintro e v4 ⟨rfl, bv4, h2, t2⟩
    have HW4 := Lib.hid (show WS v4 g bv4 (pN (pN (pN (gd (verbB p.op) o) p.op 1) p.at_ 4) p.n 2) (((N + 8 * 1) + 8 * 1) + 8 * 1) from h2)
    have HT4 := Lib.hid (HT3.out.and t2)
    have BX4 := Lib.hid (BX3.out.turnW t2 hxg)
    replace hl1 := Nat.lt_of_lt_of_le hl1 t2.size
    replace hlx := Nat.lt_of_lt_of_le hlx t2.size
    clear h2 t2 c6 BX3 HW3 HT3
    have c7 := BX4.out.2 7 _ rfl
    go_wp2_with fail
    refine (ww_text HW4.out p.data 2 128 (by have := HP.out.data; omega) (by have := HP.out.data; have := HP.out.path; have := HP.out.path2; omega)).mono ?_
    rintro e v5 ⟨rfl, bv5, h2, t2⟩
    have HW5 := Lib.hid (show WS v5 g bv5 (pT (pN (pN (pN (gd (verbB p.op) o) p.op 1) p.at_ 4) p.n 2) p.data 2 128) ((((N + 8 * 1) + 8 * 1) + 8 * 1) + 8 + p.data.size) from h2)
    have HT5 := Lib.hid (HT4.out.and t2)
    have BX5 := Lib.hid (BX4.out.turnW t2 hxg)
    replace hl1 := Nat.lt_of_lt_of_le hl1 t2.size
    replace hlx := Nat.lt_of_lt_of_le hlx t2.size
    clear h2 t2 c7 BX4 HW4 HT4
    have c8 := BX5.out.2 8 _ rfl
    have c9 := BX5.out.2 9 _ rfl
    go_wp2_with fail
    refine (ww_nums HW5.out [p.old, p.new] (cons_mem HP.out.old (one_mem HP.out.new)) 8 8 rfl (by have := HP.out.data; have := HP.out.path; have := HP.out.path2; simp; omega) 2 rfl _ rfl).mono ?_
    rintro e v6 ⟨rfl, bv6, h2, t2⟩
    have HW6 := Lib.hid (show WS v6 g bv6 (pN (pN (pT (pN (pN (pN (gd (verbB p.op) o) p.op 1) p.at_ 4) p.n 2) p.data 2 128) p.old 8) p.new 8) (((((N + 8 * 1) + 8 * 1) + 8 * 1) + 8 + p.data.size) + 8 * 2) from h2)
    have HT6 := Lib.hid (HT5.out.and t2)
    have BX6 := Lib.hid (BX5.out.turnW t2 hxg)
    replace hl1 := Nat.lt_of_lt_of_le hl1 t2.size
    replace hlx := Nat.lt_of_lt_of_le hlx t2.size
    clear h2 t2 c8 c9 BX5 HW5 HT5
    go_wp2_with fail
    go_end0
    exact ⟨rfl, _, HW6.out.mono (by have := HP.out.data; have := HP.out.path; have := HP.out.path2; omega), HT6.out⟩

set_option maxHeartbeats 8000000 in
set_option maxRecDepth 8000 in
theorem ww_verbTold {w : World} {g N : Nat} {bv : Value} {o : OBs} (h : WS w g bv o N) (p : PK) (nv : Value) (hp : p.ok) (hN : N ≤ 10000) :
    Calls Try.prog 48 #[.pointer (some ⟨g, 0, none⟩), .agg #[.int .i64 p.kind, .int .i64 p.client, .int .i64 p.epoch, .int .i64 p.seq, .int .i64 p.op, .int .i64 p.at_, .int .i64 p.n, .string p.data, .int .i64 p.old, .int .i64 p.new, .int .i64 p.ckind, .string p.path, .string p.path2, .int .i64 p.flags, .int .i64 p.cfd, .int .i64 p.coff, .int .i64 p.cn, .string p.cdata, .int .i64 p.ino, .int .i64 p.errno, .int .i64 p.rerrno, .int .i64 p.rfd, .string p.rdata, nv, .int .i64 p.ikind, .int .i64 p.ilinks, .int .i64 p.isize, .int .i64 p.wrote, .int .i64 p.nkind, .int .i64 p.nlinks, .int .i64 p.nsize, .int .i64 p.b0, .int .i64 p.b1, .int .i64 p.b2, .int .i64 p.b3, .int .i64 p.o0, .int .i64 p.o1, .int .i64 p.o2, .int .i64 p.o3, .int .i64 p.o4, .int .i64 p.o5, .int .i64 p.o6, .int .i64 p.o7]] w fun e w' => e = .returned (.tuple #[]) ∧ WDone w w' g (bTold p o) (N + 1100000) := by
  obtain ⟨w1, x, hw1, hx, h1, b1, hxg, g1, hl1, hlx⟩ := wboxed h p nv
  have HP := Lib.hid hp
  have HW0 := Lib.hid h1
  have BX0 := Lib.hid b1
  have HT0 := Lib.hid (Turn.grow g1 (fun k => k = g))
  clear h hp h1 b1 g1
  go_enter Try.func48, Try.ntmps48
  go_upto_region 1 with (fail)
  rw [← hw1, ← hx]
  clear hw1 hx
  go_cut [0] (fun v wx => v = .pointer (some ⟨g, 0, none⟩) ∧ ∃ bv', WS wx g bv' (gd (verbB p.op) o) N ∧ Turn (fun k => k = g) w1 wx)
  case first =>
    obtain ⟨d0, d1⟩ := HW0.out.blk.1.c2
    have hf1 := HW0.out.blk.2 1 (by simp)
    have c4 := BX0.out.2 4 _ rfl
    obtain ⟨fl, hfl⟩ : ∃ z, z = o.isNone := ⟨_, rfl⟩
    rw [← hfl] at d1
    have HFL := Lib.hid hfl
    clear hfl
    cases fl with
    | true =>
      have HY := Lib.hid (HW0.out.flag (verbB p.op) true (by rw [gd_isNone, ← HFL.out]; rfl))
      go_wp2_with fail
      go_meet
      exact ⟨rfl, _, HY.out.2.1, HY.out.2.2⟩
    | false =>
      have HY := Lib.hid (HW0.out.flag (verbB p.op) (!verbB p.op) (by rw [gd_isNone, ← HFL.out]; rfl))
      go_wp2_with fail
      refine (w_verb p.op _).mono ?_
      rintro e w4 ⟨rfl, rfl⟩
      go_wp2_with fail
      go_meet
      exact ⟨rfl, _, HY.out.2.1, HY.out.2.2⟩
  case rest =>
    obtain ⟨rfl, bv1, h2, t2⟩ := hcut
    have HW1 := Lib.hid h2
    have HT1 := Lib.hid (HT0.out.and t2)
    have BX1 := Lib.hid (BX0.out.turnW t2 hxg)
    replace hl1 := Nat.lt_of_lt_of_le hl1 t2.size
    replace hlx := Nat.lt_of_lt_of_le hlx t2.size
    clear h2 t2 BX0 HW0 HT0
    have c4 := BX1.out.2 4 _ rfl
    have c19 := BX1.out.2 19 _ rfl
    go_wp2_with fail
    refine (ww_nums HW1.out [p.op, p.errno] (cons_mem HP.out.op (one_mem HP.out.errno)) 1 1 rfl (by have := HP.out.data; have := HP.out.path; have := HP.out.path2; simp; omega) 2 rfl _ rfl).mono ?_
    rintro e v2 ⟨rfl, bv2, h2, t2⟩
    have HW2 := Lib.hid (show WS v2 g bv2 (pN (pN (gd (verbB p.op) o) p.op 1) p.errno 1) (N + 8 * 2) from h2)
    have HT2 := Lib.hid (HT1.out.and t2)
    have BX2 := Lib.hid (BX1.out.turnW t2 hxg)
    replace hl1 := Nat.lt_of_lt_of_le hl1 t2.size
    replace hlx := Nat.lt_of_lt_of_le hlx t2.size
    clear h2 t2 c4 c19 BX1 HW1 HT1
    have c7 := BX2.out.2 7 _ rfl
    go_wp2_with fail
    refine (ww_text HW2.out p.data 2 128 (by have := HP.out.data; omega) (by have := HP.out.data; have := HP.out.path; have := HP.out.path2; omega)).mono ?_
    rintro e v3 ⟨rfl, bv3, h2, t2⟩
    have HW3 := Lib.hid (show WS v3 g bv3 (pT (pN (pN (gd (verbB p.op) o) p.op 1) p.errno 1) p.data 2 128) ((N + 8 * 2) + 8 + p.data.size) from h2)
    have HT3 := Lib.hid (HT2.out.and t2)
    have BX3 := Lib.hid (BX2.out.turnW t2 hxg)
    replace hl1 := Nat.lt_of_lt_of_le hl1 t2.size
    replace hlx := Nat.lt_of_lt_of_le hlx t2.size
    clear h2 t2 c7 BX2 HW2 HT2
    have c8 := BX3.out.2 8 _ rfl
    go_wp2_with fail
    refine (ww_nums HW3.out [p.old] (one_mem HP.out.old) 8 8 rfl (by have := HP.out.data; have := HP.out.path; have := HP.out.path2; simp; omega) 1 rfl _ rfl).mono ?_
    rintro e v4 ⟨rfl, bv4, h2, t2⟩
    have HW4 := Lib.hid (show WS v4 g bv4 (pN (pT (pN (pN (gd (verbB p.op) o) p.op 1) p.errno 1) p.data 2 128) p.old 8) (((N + 8 * 2) + 8 + p.data.size) + 8 * 1) from h2)
    have HT4 := Lib.hid (HT3.out.and t2)
    have BX4 := Lib.hid (BX3.out.turnW t2 hxg)
    replace hl1 := Nat.lt_of_lt_of_le hl1 t2.size
    replace hlx := Nat.lt_of_lt_of_le hlx t2.size
    clear h2 t2 c8 BX3 HW3 HT3
    go_wp2_with fail
    go_end0
    exact ⟨rfl, _, HW4.out.mono (by have := HP.out.data; have := HP.out.path; have := HP.out.path2; omega), HT4.out⟩

set_option maxHeartbeats 8000000 in
set_option maxRecDepth 8000 in
theorem ww_rpcAsk {w : World} {g N : Nat} {bv : Value} {o : OBs} (h : WS w g bv o N) (p : PK) (nv : Value) (hp : p.ok) (hN : N ≤ 10000) :
    Calls Try.prog 49 #[.pointer (some ⟨g, 0, none⟩), .agg #[.int .i64 p.kind, .int .i64 p.client, .int .i64 p.epoch, .int .i64 p.seq, .int .i64 p.op, .int .i64 p.at_, .int .i64 p.n, .string p.data, .int .i64 p.old, .int .i64 p.new, .int .i64 p.ckind, .string p.path, .string p.path2, .int .i64 p.flags, .int .i64 p.cfd, .int .i64 p.coff, .int .i64 p.cn, .string p.cdata, .int .i64 p.ino, .int .i64 p.errno, .int .i64 p.rerrno, .int .i64 p.rfd, .string p.rdata, nv, .int .i64 p.ikind, .int .i64 p.ilinks, .int .i64 p.isize, .int .i64 p.wrote, .int .i64 p.nkind, .int .i64 p.nlinks, .int .i64 p.nsize, .int .i64 p.b0, .int .i64 p.b1, .int .i64 p.b2, .int .i64 p.b3, .int .i64 p.o0, .int .i64 p.o1, .int .i64 p.o2, .int .i64 p.o3, .int .i64 p.o4, .int .i64 p.o5, .int .i64 p.o6, .int .i64 p.o7]] w fun e w' => e = .returned (.tuple #[]) ∧ WDone w w' g (bRAsk p o) (N + 3000000) := by
  obtain ⟨w1, x, hw1, hx, h1, b1, hxg, g1, hl1, hlx⟩ := wboxed h p nv
  have HP := Lib.hid hp
  have HW0 := Lib.hid h1
  have BX0 := Lib.hid b1
  have HT0 := Lib.hid (Turn.grow g1 (fun k => k = g))
  clear h hp h1 b1 g1
  go_enter Try.func49, Try.ntmps49
  go_upto_region 1 with (fail)
  rw [← hw1, ← hx]
  clear hw1 hx
  have c4 := BX0.out.2 4 _ rfl
  have c18 := BX0.out.2 18 _ rfl
  go_wp2_with fail
  refine (ww_nums HW0.out [p.op, p.ino] (cons_mem HP.out.op (one_mem HP.out.ino)) 1 1 rfl (by have := HP.out.data; have := HP.out.path; have := HP.out.path2; simp; omega) 2 rfl _ rfl).mono ?_
  rintro e v1 ⟨rfl, bv1, h2, t2⟩
  have HW1 := Lib.hid (show WS v1 g bv1 (pN (pN o p.op 1) p.ino 1) (N + 8 * 2) from h2)
  have HT1 := Lib.hid (HT0.out.and t2)
  have BX1 := Lib.hid (BX0.out.turnW t2 hxg)
  replace hl1 := Nat.lt_of_lt_of_le hl1 t2.size
  replace hlx := Nat.lt_of_lt_of_le hlx t2.size
  clear h2 t2 c4 c18 BX0 HW0 HT0
  have c11 := BX1.out.2 11 _ rfl
  go_wp2_with fail
  refine (ww_text HW1.out p.path 1 100 (by have := HP.out.path; omega) (by have := HP.out.data; have := HP.out.path; have := HP.out.path2; omega)).mono ?_
  rintro e v2 ⟨rfl, bv2, h2, t2⟩
  have HW2 := Lib.hid (show WS v2 g bv2 (pT (pN (pN o p.op 1) p.ino 1) p.path 1 100) ((N + 8 * 2) + 8 + p.path.size) from h2)
  have HT2 := Lib.hid (HT1.out.and t2)
  have BX2 := Lib.hid (BX1.out.turnW t2 hxg)
  replace hl1 := Nat.lt_of_lt_of_le hl1 t2.size
  replace hlx := Nat.lt_of_lt_of_le hlx t2.size
  clear h2 t2 c11 BX1 HW1 HT1
  have c12 := BX2.out.2 12 _ rfl
  go_wp2_with fail
  refine (ww_text HW2.out p.path2 1 100 (by have := HP.out.path2; omega) (by have := HP.out.data; have := HP.out.path; have := HP.out.path2; omega)).mono ?_
  rintro e v3 ⟨rfl, bv3, h2, t2⟩
  have HW3 := Lib.hid (show WS v3 g bv3 (pT (pT (pN (pN o p.op 1) p.ino 1) p.path 1 100) p.path2 1 100) (((N + 8 * 2) + 8 + p.path.size) + 8 + p.path2.size) from h2)
  have HT3 := Lib.hid (HT2.out.and t2)
  have BX3 := Lib.hid (BX2.out.turnW t2 hxg)
  replace hl1 := Nat.lt_of_lt_of_le hl1 t2.size
  replace hlx := Nat.lt_of_lt_of_le hlx t2.size
  clear h2 t2 c12 BX2 HW2 HT2
  have c13 := BX3.out.2 13 _ rfl
  go_wp2_with fail
  refine (ww_nums HW3.out [p.flags] (one_mem HP.out.flags) 1 1 rfl (by have := HP.out.data; have := HP.out.path; have := HP.out.path2; simp; omega) 1 rfl _ rfl).mono ?_
  rintro e v4 ⟨rfl, bv4, h2, t2⟩
  have HW4 := Lib.hid (show WS v4 g bv4 (pN (pT (pT (pN (pN o p.op 1) p.ino 1) p.path 1 100) p.path2 1 100) p.flags 1) ((((N + 8 * 2) + 8 + p.path.size) + 8 + p.path2.size) + 8 * 1) from h2)
  have HT4 := Lib.hid (HT3.out.and t2)
  have BX4 := Lib.hid (BX3.out.turnW t2 hxg)
  replace hl1 := Nat.lt_of_lt_of_le hl1 t2.size
  replace hlx := Nat.lt_of_lt_of_le hlx t2.size
  clear h2 t2 c13 BX3 HW3 HT3
  have c16 := BX4.out.2 16 _ rfl
  go_wp2_with fail
  refine (ww_nums HW4.out [p.cn] (one_mem HP.out.cn) 4 4 rfl (by have := HP.out.data; have := HP.out.path; have := HP.out.path2; simp; omega) 1 rfl _ rfl).mono ?_
  rintro e v5 ⟨rfl, bv5, h2, t2⟩
  have HW5 := Lib.hid (show WS v5 g bv5 (pN (pN (pT (pT (pN (pN o p.op 1) p.ino 1) p.path 1 100) p.path2 1 100) p.flags 1) p.cn 4) (((((N + 8 * 2) + 8 + p.path.size) + 8 + p.path2.size) + 8 * 1) + 8 * 1) from h2)
  have HT5 := Lib.hid (HT4.out.and t2)
  have BX5 := Lib.hid (BX4.out.turnW t2 hxg)
  replace hl1 := Nat.lt_of_lt_of_le hl1 t2.size
  replace hlx := Nat.lt_of_lt_of_le hlx t2.size
  clear h2 t2 c16 BX4 HW4 HT4
  go_wp2_with fail
  go_end0
  exact ⟨rfl, _, HW5.out.mono (by have := HP.out.data; have := HP.out.path; have := HP.out.path2; omega), HT5.out⟩
end Go.Proofs.Ytdlcpfgogjcciaa
