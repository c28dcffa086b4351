/- layout.Find, Of, Size, In. -/
import Derived.Test.YtallhdjmmliehaaParts
namespace Go.Proofs.Ytallhdjmmliehaa
open Go.RowKit Go.Shelf

attribute [local go_sem] Oper.semAt_some

def hitB (k n : Int) (x : Pt) : Bool := decide (x.k = k ∧ x.n = n)
def zeroPt : Pt := ⟨0, 0, 0, 0⟩
def optV (o : Option Pt) : Value := .tuple #[encPt (o.getD zeroPt), .bool o.isSome]
/-- A block of four cells holds a part. -/
def PtAt (W : World) (B : Nat) (x : Pt) : Prop := W.heap[B]? = some (.cells #[.int .i64 x.k, .int .i64 x.n, .int .i64 x.a, .int .i64 x.s] 23 (0, 0))

theorem PtAt.lt {W : World} {B : Nat} {x : Pt} (h : PtAt W B x) : B < W.heap.size := (Array.getElem?_eq_some_iff.1 h).1
theorem PtAt.cells {W : World} {B : Nat} {x : Pt} (h : PtAt W B x) : W.cell? ⟨B, 0, none⟩ = some (.int .i64 x.k) ∧ W.cell? ⟨B, 1, none⟩ = some (.int .i64 x.n) ∧ W.cell? ⟨B, 2, none⟩ = some (.int .i64 x.a) ∧ W.cell? ⟨B, 3, none⟩ = some (.int .i64 x.s) := by
  refine ⟨?_, ?_, ?_, ?_⟩ <;> simp [World.cell?, show W.heap[B]? = _ from h]
theorem PtAt.frozen {W : World} {B : Nat} {x : Pt} (h : PtAt W B x) : W.frozen? ⟨B, 0, none⟩ = false ∧ W.frozen? ⟨B, 1, none⟩ = false ∧ W.frozen? ⟨B, 2, none⟩ = false ∧ W.frozen? ⟨B, 3, none⟩ = false := by
  refine ⟨?_, ?_, ?_, ?_⟩ <;> simp [World.frozen?, show W.heap[B]? = _ from h]
theorem PtAt.kept {W W' : World} {row : Option Nat} {B : Nat} {x : Pt} (h : PtAt W B x) (hg : W.grownBy W' row) (hne : some B ≠ row) : PtAt W' B x := (hg.block B h.lt hne).trans h
theorem PtAt.alloc {W : World} {B : Nat} {x : Pt} (h : PtAt W B x) (o : Obj) : PtAt (W.alloc o) B x := h.kept (World.grownBy_alloc W o none) (by simp)
theorem PtAt.new (W : World) (x : Pt) : PtAt (W.alloc (.cells #[.int .i64 x.k, .int .i64 x.n, .int .i64 x.a, .int .i64 x.s] 23)) W.heap.size x := World.alloc_heap_new W _
theorem PtAt.from_ {β : Type} (B B' : Nat) (x : β → Pt) : OwnFrom B' (fun s W => PtAt W B (x s)) := fun s X Y row hs hg hrow =>
  hs.kept hg (fun e' => by obtain ⟨_, o, ho, hc⟩ := hrow B e'.symm; rw [show X.heap[B]? = _ from hs] at ho; cases ho; cases hc)

theorem setCell_block {W : World} {B i : Nat} {vs : Array Value} {t : TypeId} {fz : Nat × Nat} (h : W.heap[B]? = some (.cells vs t fz)) (v : Value) : (W.setCell ⟨B, i, none⟩ v).heap[B]? = some (.cells (vs.setIfInBounds i v) t fz) := by
  obtain ⟨hlt, hk⟩ := Array.getElem?_eq_some_iff.1 h
  show (W.heap.modify B _)[B]? = _
  rw [Array.getElem?_eq_getElem (by rw [Array.size_modify]; exact hlt), Array.getElem_modify_self, hk]
  rfl
theorem PtAt.set4 {W : World} {B : Nat} {y : Pt} (h : PtAt W B y) (x : Pt) : PtAt ((((W.setCell ⟨B, 0, none⟩ (.int .i64 x.k)).setCell ⟨B, 1, none⟩ (.int .i64 x.n)).setCell ⟨B, 2, none⟩ (.int .i64 x.a)).setCell ⟨B, 3, none⟩ (.int .i64 x.s)) B x := by
  refine (setCell_block (setCell_block (setCell_block (setCell_block h _) _) _) _).trans ?_
  rfl
theorem grownBy_setCell4 (W : World) (b i : Nat) (v : Value) : W.grownBy (W.setCell ⟨b, i, none⟩ v) (some b) :=
  ⟨rfl, rfl, rfl, (KeepsWalks.setCell W _ v).size, fun k _ hk => Below.heap_setCell _ _ _ k (fun e => hk (by rw [e]))⟩
theorem PtAt.other {W : World} {B B' i : Nat} {x : Pt} (h : PtAt W B x) (hne : B ≠ B') (v : Value) : PtAt (W.setCell ⟨B', i, none⟩ v) B x := h.kept (grownBy_setCell4 W B' i v) (fun e => hne (by cases e; rfl))
theorem boxed_other {W : World} {B B' i : Nat} {t : TypeId} {u : Value} (h : Boxed W B t u) (hne : B ≠ B') (v : Value) : Boxed (W.setCell ⟨B', i, none⟩ v) B t u := h.kept (grownBy_setCell4 W B' i v) (fun e => hne (by cases e; rfl))

theorem res_store {w W : World} {s B : Nat} {y : Pt} {tb : TypeId} {u : Value} (i4 : PtAt W B y) (i5 : Boxed W (B + 1) tb u) (i6 : Below s w W) (hs : s ≤ B) (k n a z : Int) (v : Value) :
    KeepsOthers W (((((W.setCell ⟨B, 0, none⟩ (.int .i64 k)).setCell ⟨B, 1, none⟩ (.int .i64 n)).setCell ⟨B, 2, none⟩ (.int .i64 a)).setCell ⟨B, 3, none⟩ (.int .i64 z)).setCell ⟨B + 1, 0, none⟩ v) ∧
    PtAt (((((W.setCell ⟨B, 0, none⟩ (.int .i64 k)).setCell ⟨B, 1, none⟩ (.int .i64 n)).setCell ⟨B, 2, none⟩ (.int .i64 a)).setCell ⟨B, 3, none⟩ (.int .i64 z)).setCell ⟨B + 1, 0, none⟩ v) B ⟨k, n, a, z⟩ ∧
    Boxed (((((W.setCell ⟨B, 0, none⟩ (.int .i64 k)).setCell ⟨B, 1, none⟩ (.int .i64 n)).setCell ⟨B, 2, none⟩ (.int .i64 a)).setCell ⟨B, 3, none⟩ (.int .i64 z)).setCell ⟨B + 1, 0, none⟩ v) (B + 1) tb v ∧
    Below s w (((((W.setCell ⟨B, 0, none⟩ (.int .i64 k)).setCell ⟨B, 1, none⟩ (.int .i64 n)).setCell ⟨B, 2, none⟩ (.int .i64 a)).setCell ⟨B, 3, none⟩ (.int .i64 z)).setCell ⟨B + 1, 0, none⟩ v) := by
  have hne : B + 1 ≠ B := by omega
  have a0 := boxed_other (B' := B) (i := 0) i5 hne (.int .i64 k)
  have a1 := boxed_other (B' := B) (i := 1) a0 hne (.int .i64 n)
  have a2 := boxed_other (B' := B) (i := 2) a1 hne (.int .i64 a)
  have a3 := boxed_other (B' := B) (i := 3) a2 hne (.int .i64 z)
  refine ⟨((((KeepsOthers.setCell _ _ _).trans (KeepsOthers.setCell _ _ _)).trans (KeepsOthers.setCell _ _ _)).trans (KeepsOthers.setCell _ _ _)).trans (KeepsOthers.setCell _ _ _), (i4.set4 ⟨k, n, a, z⟩).other (B' := B + 1) (i := 0) (by omega) v, a3.set v, ?_⟩
  have b0 := i6.setCell (p := ⟨B, 0, none⟩) hs (.int .i64 k)
  have b1 := b0.setCell (p := ⟨B, 1, none⟩) hs (.int .i64 n)
  have b2 := b1.setCell (p := ⟨B, 2, none⟩) hs (.int .i64 a)
  have b3 := b2.setCell (p := ⟨B, 3, none⟩) hs (.int .i64 z)
  exact b3.setCell (p := ⟨B + 1, 0, none⟩) (show s ≤ B + 1 by omega) v

theorem parts_stops (n n₁ : Nat) (hn : 1 ≤ n) (w : World) (h : n₁ ≤ w.heap.size) :
    SeqStopsK Fence.wide n Try.prog 14 #[] (fun x : Pt => #[encPt x]) (KeepsAbove n₁) (fun ys => ys = upTo 7) (fun pre => pre <+: upTo 7) 179 w :=
  fun l J Jx W hW hJ _ hY h0 => parts_in n l n₁ J Jx W hn (Nat.le_trans h hW.size) hJ hY h0

set_option maxRecDepth 100000 in
set_option maxHeartbeats 2000000 in
theorem find_w (k nn : Int) (w : World) : Calls Try.prog 7 #[.int .i64 k, .int .i64 nn] w fun e w' => e = .returned (optV ((upTo 7).find? (hitB k nn))) ∧ Below w.heap.size w w' := by
  refine (callsIn_wide (n := 5)).1 ?_
  refine callsIn_of_wp_marks Try.func7 rfl trivial ?_ rfl
  simp only [Try.ntmps7, List.size_toArray, List.length_cons, List.length_nil, Nat.reduceAdd, Nat.reduceSub, Array.replicate_succ, Array.replicate_zero, List.push_toArray, List.append_toArray, List.nil_append, List.cons_append]
  gi_wp2_with fail
  obtain ⟨s, hs⟩ : ∃ s, w.heap.size = s := ⟨_, rfl⟩
  have bK := (((Boxed.new w 3 (.int .i64 k)).alloc (.cells #[.int .i64 nn] 3)).alloc (.cells #[.int .i64 0, .int .i64 0, .int .i64 0, .int .i64 0] 23)).alloc (.cells #[.bool false] 4)
  have bN := ((Boxed.new (w.alloc (.cells #[.int .i64 k] 3)) 3 (.int .i64 nn)).alloc (.cells #[.int .i64 0, .int .i64 0, .int .i64 0, .int .i64 0] 23)).alloc (.cells #[.bool false] 4)
  have bP := (PtAt.new ((w.alloc (.cells #[.int .i64 k] 3)).alloc (.cells #[.int .i64 nn] 3)) zeroPt).alloc (.cells #[.bool false] 4)
  have bR := Boxed.new (((w.alloc (.cells #[.int .i64 k] 3)).alloc (.cells #[.int .i64 nn] 3)).alloc (.cells #[.int .i64 0, .int .i64 0, .int .i64 0, .int .i64 0] 23)) 4 (.bool false)
  have hB0 : Below w.heap.size w ((((w.alloc (.cells #[.int .i64 k] 3)).alloc (.cells #[.int .i64 nn] 3)).alloc (.cells #[.int .i64 0, .int .i64 0, .int .i64 0, .int .i64 0] 23)).alloc (.cells #[.bool false] 4)) := ((((Below.refl _ w).alloc (Nat.le_refl _) _).alloc (by simp) _).alloc (by simp; omega) _).alloc (by simp; omega) _
  have hsz : ((((w.alloc (.cells #[.int .i64 k] 3)).alloc (.cells #[.int .i64 nn] 3)).alloc (.cells #[.int .i64 0, .int .i64 0, .int .i64 0, .int .i64 0] 23)).alloc (.cells #[.bool false] 4)).heap.size = s + 4 := by simp [hs]
  simp only [World.size_alloc] at bN bP bR
  simp only [zeroPt] at bP
  obtain ⟨W0, hW0⟩ : ∃ W0, (((w.alloc (.cells #[.int .i64 k] 3)).alloc (.cells #[.int .i64 nn] 3)).alloc (.cells #[.int .i64 0, .int .i64 0, .int .i64 0, .int .i64 0] 23)).alloc (.cells #[.bool false] 4) = W0 := ⟨_, rfl⟩
  rw [hW0] at bK bN bP bR hB0 hsz ⊢
  rw [hs] at bK bN bP bR hB0 ⊢
  replace bP : PtAt W0 (s + 1 + 1) zeroPt := bP
  clear hW0
  refine wpIn_rangeFunc_ownH rfl (by decide) (gf := 14) (lb := #[]) rfl trivial (enters_of Try.func14 (by kernel_rfl) rfl)
    (parts_stops (5 - 1) (s + 4) (by decide) W0 (by omega)) (fun h k => h.trans k) (fun W l o o' _ h hc _ => keepsAbove_b W l o o' h hc) (Below.refl _ _) (fun _ => rfl)
    (fun pre W => ((((∀ y ∈ pre, hitB k nn y = false) ∧ Boxed W s 3 (.int .i64 k)) ∧ Boxed W (s + 1) 3 (.int .i64 nn)) ∧ PtAt W (s + 1 + 1) zeroPt ∧ Boxed W (s + 1 + 1 + 1) 4 (.bool false)) ∧ Below s w W)
    (fun c pre W => ((c = .ret ∧ ∃ pre0 x, pre = pre0 ++ [x] ∧ (∀ y ∈ pre0, hitB k nn y = false) ∧ hitB k nn x = true ∧ PtAt W (s + 1 + 1) x) ∧ Boxed W (s + 1 + 1 + 1) 4 (.bool true)) ∧ Below s w W)
    (OwnFrom.and (OwnFrom.and (OwnFrom.and (OwnFrom.and (ownFrom_pure _ _) (Own.from (boxed_own _ _ _) _)) (Own.from (boxed_own _ _ _) _)) (OwnFrom.and (PtAt.from_ _ _ _) (Own.from (boxed_own _ _ _) _))) (ownFrom_below (by omega) (by omega)))
    (fun c => OwnFrom.and (OwnFrom.and (fun pre X Y row hs hg hr => by
      obtain ⟨h1, pre0, x, h2, h3, h4, h5⟩ := hs
      exact ⟨h1, pre0, x, h2, h3, h4, PtAt.from_ _ _ (fun (_ : Unit) => x) () X Y row h5 hg hr⟩) (Own.from (boxed_own _ _ _) _)) (ownFrom_below (by omega) (by omega)))
    ⟨⟨⟨⟨by simp, bK⟩, bN⟩, bP, bR⟩, hB0⟩
    (fun x a' W => ∃ Bx, s + 1 + 1 + 1 < Bx ∧ PtAt W Bx x ∧ a' = { tmps := #[.int .i64 k, .int .i64 nn, .pointer (some ⟨s, 0, none⟩), .pointer (some ⟨s + 1, 0, none⟩), .pointer (some ⟨s + 1 + 1, 0, none⟩), .pointer (some ⟨s + 1 + 1 + 1, 0, none⟩), .pointer (some ⟨Bx, 0, none⟩), encPt x, undef, undef, undef, undef, undef, undef, undef, undef, undef, undef, undef], defers := [] })
    (fun x a' _ X Y row hs hg hr => by obtain ⟨Bx, h1, h2, h3⟩ := hs; exact ⟨Bx, h1, PtAt.from_ Bx _ (fun (_ : Unit) => x) () X Y row h2 hg hr, h3⟩)
    ?assign ?body ?done ?stop
  case assign =>
    rintro l pre x W K ⟨⟨⟨⟨i1, i2⟩, i3⟩, i4, i5⟩, i6⟩ hK
    simp only [encPt]
    gi_wp2
    exact hK _ _ ((KeepsOthers.alloc _ _).from _) (KeepsAbove.alloc _ _ _) ⟨⟨⟨⟨i1, i2.alloc _⟩, i3.alloc _⟩, i4.alloc _, i5.alloc _⟩, i6.alloc (by rw [← hs]; exact i6.size) _⟩ ⟨W.heap.size, i5.lt, PtAt.new W x, rfl⟩
  case body =>
    rintro l pre x a' W hl hr ⟨⟨⟨⟨i1, i2⟩, i3⟩, i4, i5⟩, i6⟩ ⟨Bx, hBx, bX, rfl⟩ hlt
    have c1 := i2.cell
    have c2 := i3.cell
    obtain ⟨x1, x2, x3, x4⟩ := bX.cells
    obtain ⟨r1, r2, r3, r4⟩ := i4.cells
    obtain ⟨f1, f2, f3, f4⟩ := i4.frozen
    have c3 := i5.cell
    have f5 := i5.frozen
    gi_wp2_with fail
    · rename_i hx1 hx2
      obtain ⟨k1, k2, k3, k4⟩ := res_store i4 i5 i6 (show s ≤ s + 1 + 1 by omega) k nn x.a x.s (.bool true)
      have hx : (⟨k, nn, x.a, x.s⟩ : Pt) = x := by rw [← hx1, ← hx2]
      rw [hx] at k2
      exact ⟨k1.from _, ⟨⟨rfl, pre, x, rfl, i1, by simp [hitB, hx1, hx2], k2⟩, k3⟩, k4⟩
    all_goals
      rename_i hx1
      have hno : hitB k nn x = false := by simp only [hitB, decide_eq_false_iff_not]; exact fun h => hx1 (by first | exact h.1 | exact h.2)
      exact ⟨(KeepsOthers.refl _).from _, KeepsAbove.refl _ _, ⟨⟨⟨⟨fun y hy => (List.mem_append.1 hy).elim (i1 y) (fun h => by rw [List.mem_singleton.1 h]; exact hno), i2⟩, i3⟩, i4, i5⟩, i6⟩⟩
  case done =>
    rintro D ys W hD rfl ⟨⟨⟨⟨i1, i2⟩, i3⟩, i4, i5⟩, i6⟩ hK
    have hnone : (upTo 7).find? (hitB k nn) = none := List.find?_eq_none.2 (fun y hy => by simp [i1 y hy])
    obtain ⟨r1, r2, r3, r4⟩ := i4.cells
    obtain ⟨f1, f2, f3, f4⟩ := i4.frozen
    have c3 := i5.cell
    have f5 := i5.frozen
    gi_wp2_with fail
    obtain ⟨k1, hp, hb, hB2⟩ := res_store i4 i5 i6 (show s ≤ s + 1 + 1 by omega) 0 0 0 0 (.bool false)
    have hK' := k1.same D _ hK rfl
    obtain ⟨W5, hW5⟩ : ∃ W5, (((((W.setCell ⟨s + 1 + 1, 0, none⟩ (.int .i64 0)).setCell ⟨s + 1 + 1, 1, none⟩ (.int .i64 0)).setCell ⟨s + 1 + 1, 2, none⟩ (.int .i64 0)).setCell ⟨s + 1 + 1, 3, none⟩ (.int .i64 0)).setCell ⟨s + 1 + 1 + 1, 0, none⟩ (.bool false)) = W5 := ⟨_, rfl⟩
    rw [hW5] at hp hb hB2 hK' ⊢
    refine ⟨by simp, .inl ⟨_, _, rfl, run_takeDeferred hK', ?_⟩⟩
    have hp6 := (hp.kept (grownBy_putObj' W5 D (.deferred none)) (fun e => by cases e; rw [show W5.heap[s + 1 + 1]? = _ from hp] at hK'; cases hK')).cells
    have hb6 := (hb.kept (grownBy_putObj' W5 D (.deferred none)) (fun e => by cases e; rw [show W5.heap[s + 1 + 1 + 1]? = _ from hb] at hK'; cases hK')).cell
    obtain ⟨y1, y2, y3, y4⟩ := hp6
    refine ⟨optV none, ?_, by rw [hnone], by rw [hs]; exact hB2.trans (belowK_b (w := W0) (by omega) _ D _ _ hD hK' rfl rfl)⟩
    simp [results, Try.f7, go_sem, y1, y2, y3, y4, hb6, optV, encPt, zeroPt]
  case stop =>
    rintro D c pre W hD hpre ⟨⟨⟨rfl, pre0, x, rfl, i1, i2, i3⟩, i4⟩, i5⟩ hK
    have hsome : (upTo 7).find? (hitB k nn) = some x := by
      obtain ⟨t, ht⟩ := hpre
      rw [← ht, List.find?_append, List.find?_append, List.find?_eq_none.2 (fun y hy => by simp [i1 y hy])]
      simp [i2]
    gi_wp2
    refine ⟨by simp, .inl ⟨_, _, rfl, run_takeDeferred hK, ?_⟩⟩
    have hp6 := (i3.kept (grownBy_putObj' W D (.deferred none)) (fun e => by cases e; rw [show W.heap[s + 1 + 1]? = _ from i3] at hK; cases hK)).cells
    have hb6 := (i4.kept (grownBy_putObj' W D (.deferred none)) (fun e => by cases e; rw [show W.heap[s + 1 + 1 + 1]? = _ from i4] at hK; cases hK)).cell
    obtain ⟨y1, y2, y3, y4⟩ := hp6
    refine ⟨optV (some x), ?_, by rw [hsome], by rw [hs]; exact i5.trans (belowK_b (w := W0) (by omega) _ D _ _ hD hK rfl rfl)⟩
    simp [results, Try.f7, go_sem, y1, y2, y3, y4, hb6, optV, encPt]
/-- Whether bytes lie in a part. -/
def inW (a s q n : Int) : Bool := decide (0 ≤ n) && decide (a ≤ q) && decide (n ≤ s) && decide (wrap64 (q - a) ≤ wrap64 (s - n))

theorem in_w (x : Pt) (q n : Int) (w : World) : Calls Try.prog 12 #[encPt x, .int .i64 q, .int .i64 n] w fun e w' => e = .returned (.bool (inW x.a x.s q n)) ∧ ∃ o, w' = w.alloc o := by
  obtain ⟨k, m, a, s⟩ := x
  simp only [encPt, inW]
  by_cases h1 : 0 ≤ n
  · have d1 := decide_eq_true h1
    by_cases h2 : a ≤ q
    · have d2 := decide_eq_true h2
      by_cases h3 : n ≤ s
      · have d3 := decide_eq_true h3
        rw [d1, d2, d3]
        clear d1 d2 d3
        go_enter Try.func12, Try.ntmps12
        go_wp2
        go_ret
        exact ⟨by simp, _, rfl⟩
      · have d3 := decide_eq_false h3
        rw [d1, d2, d3]
        clear d1 d2 d3
        go_enter Try.func12, Try.ntmps12
        go_wp2
        go_ret
        exact ⟨by simp, _, rfl⟩
    · have d2 := decide_eq_false h2
      rw [d1, d2]
      clear d1 d2
      go_enter Try.func12, Try.ntmps12
      go_wp2
      go_ret
      exact ⟨by simp, _, rfl⟩
  · have d1 := decide_eq_false h1
    rw [d1]
    clear d1
    go_enter Try.func12, Try.ntmps12
    go_wp2
    go_ret
    exact ⟨by simp, _, rfl⟩

def ofB (q : Int) (x : Pt) : Bool := inW x.a x.s q 1
set_option maxRecDepth 100000 in
set_option maxHeartbeats 2000000 in
theorem of_w (q : Int) (w : World) : Calls Try.prog 10 #[.int .i64 q] w fun e w' => e = .returned (optV ((upTo 7).find? (ofB q))) ∧ Below w.heap.size w w' := by
  refine (callsIn_wide (n := 5)).1 ?_
  refine callsIn_of_wp_marks Try.func10 rfl trivial ?_ rfl
  simp only [Try.ntmps10, List.size_toArray, List.length_cons, List.length_nil, Nat.reduceAdd, Nat.reduceSub, Array.replicate_succ, Array.replicate_zero, List.push_toArray, List.append_toArray, List.nil_append, List.cons_append]
  gi_wp2_with fail
  obtain ⟨s, hs⟩ : ∃ s, w.heap.size = s := ⟨_, rfl⟩
  have bK := ((Boxed.new w 3 (.int .i64 q)).alloc (.cells #[.int .i64 0, .int .i64 0, .int .i64 0, .int .i64 0] 23)).alloc (.cells #[.bool false] 4)
  have bP := (PtAt.new (w.alloc (.cells #[.int .i64 q] 3)) zeroPt).alloc (.cells #[.bool false] 4)
  have bR := Boxed.new ((w.alloc (.cells #[.int .i64 q] 3)).alloc (.cells #[.int .i64 0, .int .i64 0, .int .i64 0, .int .i64 0] 23)) 4 (.bool false)
  have hB0 : Below w.heap.size w (((w.alloc (.cells #[.int .i64 q] 3)).alloc (.cells #[.int .i64 0, .int .i64 0, .int .i64 0, .int .i64 0] 23)).alloc (.cells #[.bool false] 4)) := (((Below.refl _ w).alloc (Nat.le_refl _) _).alloc (by simp) _).alloc (by simp; omega) _
  have hsz : (((w.alloc (.cells #[.int .i64 q] 3)).alloc (.cells #[.int .i64 0, .int .i64 0, .int .i64 0, .int .i64 0] 23)).alloc (.cells #[.bool false] 4)).heap.size = s + 3 := by simp [hs]
  simp only [World.size_alloc] at bP bR
  simp only [zeroPt] at bP
  obtain ⟨W0, hW0⟩ : ∃ W0, ((w.alloc (.cells #[.int .i64 q] 3)).alloc (.cells #[.int .i64 0, .int .i64 0, .int .i64 0, .int .i64 0] 23)).alloc (.cells #[.bool false] 4) = W0 := ⟨_, rfl⟩
  rw [hW0] at bK bP bR hB0 hsz ⊢
  rw [hs] at bK bP bR hB0 ⊢
  replace bP : PtAt W0 (s + 1) zeroPt := bP
  clear hW0
  refine wpIn_rangeFunc_ownH rfl (by decide) (gf := 14) (lb := #[]) rfl trivial (enters_of Try.func14 (by kernel_rfl) rfl)
    (parts_stops (5 - 1) (s + 3) (by decide) W0 (by omega)) (fun h k => h.trans k) (fun W l o o' _ h hc _ => keepsAbove_b W l o o' h hc) (Below.refl _ _) (fun _ => rfl)
    (fun pre W => (((∀ y ∈ pre, ofB q y = false) ∧ Boxed W s 3 (.int .i64 q)) ∧ PtAt W (s + 1) zeroPt ∧ Boxed W (s + 1 + 1) 4 (.bool false)) ∧ Below s w W)
    (fun c pre W => ((c = .ret ∧ ∃ pre0 x, pre = pre0 ++ [x] ∧ (∀ y ∈ pre0, ofB q y = false) ∧ ofB q x = true ∧ PtAt W (s + 1) x) ∧ Boxed W (s + 1 + 1) 4 (.bool true)) ∧ Below s w W)
    (OwnFrom.and (OwnFrom.and (OwnFrom.and (ownFrom_pure _ _) (Own.from (boxed_own _ _ _) _)) (OwnFrom.and (PtAt.from_ _ _ _) (Own.from (boxed_own _ _ _) _))) (ownFrom_below (by omega) (by omega)))
    (fun c => OwnFrom.and (OwnFrom.and (fun pre X Y row hs hg hr => by
      obtain ⟨h1, pre0, x, h2, h3, h4, h5⟩ := hs
      exact ⟨h1, pre0, x, h2, h3, h4, PtAt.from_ _ _ (fun (_ : Unit) => x) () X Y row h5 hg hr⟩) (Own.from (boxed_own _ _ _) _)) (ownFrom_below (by omega) (by omega)))
    ⟨⟨⟨by simp, bK⟩, bP, bR⟩, hB0⟩
    (fun x a' W => ∃ Bx, s + 1 + 1 < Bx ∧ PtAt W Bx x ∧ a' = { tmps := #[.int .i64 q, .pointer (some ⟨s, 0, none⟩), .pointer (some ⟨s + 1, 0, none⟩), .pointer (some ⟨s + 1 + 1, 0, none⟩), .pointer (some ⟨Bx, 0, none⟩), encPt x, undef, undef, undef, undef, undef], defers := [] })
    (fun x a' _ X Y row hs hg hr => by obtain ⟨Bx, h1, h2, h3⟩ := hs; exact ⟨Bx, h1, PtAt.from_ Bx _ (fun (_ : Unit) => x) () X Y row h2 hg hr, h3⟩)
    ?assign ?body ?done ?stop
  case assign =>
    rintro l pre x W K ⟨⟨⟨i1, i2⟩, i4, i5⟩, i6⟩ hK
    simp only [encPt]
    gi_wp2
    exact hK _ _ ((KeepsOthers.alloc _ _).from _) (KeepsAbove.alloc _ _ _) ⟨⟨⟨i1, i2.alloc _⟩, i4.alloc _, i5.alloc _⟩, i6.alloc (by rw [← hs]; exact i6.size) _⟩ ⟨W.heap.size, i5.lt, PtAt.new W x, rfl⟩
  case body =>
    rintro l pre x a' W hl hr ⟨⟨⟨i1, i2⟩, i4, i5⟩, i6⟩ ⟨Bx, hBx, bX, rfl⟩ hlt
    have c1 := i2.cell
    obtain ⟨x1, x2, x3, x4⟩ := bX.cells
    obtain ⟨r1, r2, r3, r4⟩ := i4.cells
    obtain ⟨f1, f2, f3, f4⟩ := i4.frozen
    have c3 := i5.cell
    have f5 := i5.frozen
    have hin : Calls Try.prog 12 #[.agg #[.int .i64 x.k, .int .i64 x.n, .int .i64 x.a, .int .i64 x.s], .int .i64 q, .int .i64 1] W fun e w' => e = .returned (.bool (inW x.a x.s q 1)) ∧ ∃ o, w' = W.alloc o := in_w x q 1 W
    cases hb : inW x.a x.s q 1 with
    | true =>
      rw [hb] at hin
      have HB := Lib.hid hb
      clear hb
      gi_wp2_with (refine ⟨trivial, ?_⟩; gi_at_call 12; refine (CallsIn.inRound l (callsIn_wide.2 hin)).mono ?_; rintro e w' ⟨rfl, o, rfl⟩; clear hin c1 x1 x2 x3 x4 r1 r2 r3 r4 f1 f2 f3 f4 c3 f5; have j2 := i2.alloc o; have j4 := i4.alloc o; have j5 := i5.alloc o; have j6 := i6.alloc (by rw [← hs]; exact i6.size) o; have jX := bX.alloc o; have c1 := j2.cell; obtain ⟨x1, x2, x3, x4⟩ := jX.cells; obtain ⟨r1, r2, r3, r4⟩ := j4.cells; obtain ⟨f1, f2, f3, f4⟩ := j4.frozen; have c3 := j5.cell; have f5 := j5.frozen)
      obtain ⟨k1, k2, k3, k4⟩ := res_store j4 j5 j6 (show s ≤ s + 1 by omega) x.k x.n x.a x.s (.bool true)
      exact ⟨((KeepsOthers.alloc _ _).trans k1).from _, ⟨⟨rfl, pre, x, rfl, i1, HB.out, k2⟩, k3⟩, k4⟩
    | false =>
      rw [hb] at hin
      have HB := Lib.hid hb
      clear hb
      gi_wp2_with (refine ⟨trivial, ?_⟩; gi_at_call 12; refine (CallsIn.inRound l (callsIn_wide.2 hin)).mono ?_; rintro e w' ⟨rfl, o, rfl⟩; clear hin c1 x1 x2 x3 x4 r1 r2 r3 r4 f1 f2 f3 f4 c3 f5; have j2 := i2.alloc o; have j4 := i4.alloc o; have j5 := i5.alloc o; have j6 := i6.alloc (by rw [← hs]; exact i6.size) o; have jX := bX.alloc o; have c1 := j2.cell; obtain ⟨x1, x2, x3, x4⟩ := jX.cells; obtain ⟨r1, r2, r3, r4⟩ := j4.cells; obtain ⟨f1, f2, f3, f4⟩ := j4.frozen; have c3 := j5.cell; have f5 := j5.frozen)
      exact ⟨(KeepsOthers.alloc _ _).from _, KeepsAbove.alloc _ _ _, ⟨⟨⟨fun y hy => (List.mem_append.1 hy).elim (i1 y) (fun h => by rw [List.mem_singleton.1 h]; exact HB.out), j2⟩, j4, j5⟩, j6⟩⟩
  case done =>
    rintro D ys W hD rfl ⟨⟨⟨i1, i2⟩, i4, i5⟩, i6⟩ hK
    have hnone : (upTo 7).find? (ofB q) = none := List.find?_eq_none.2 (fun y hy => by simp [i1 y hy])
    obtain ⟨r1, r2, r3, r4⟩ := i4.cells
    obtain ⟨f1, f2, f3, f4⟩ := i4.frozen
    have c3 := i5.cell
    have f5 := i5.frozen
    gi_wp2_with fail
    obtain ⟨k1, hp, hb, hB2⟩ := res_store i4 i5 i6 (show s ≤ s + 1 by omega) 0 0 0 0 (.bool false)
    have hK' := k1.same D _ hK rfl
    obtain ⟨W5, hW5⟩ : ∃ W5, (((((W.setCell ⟨s + 1, 0, none⟩ (.int .i64 0)).setCell ⟨s + 1, 1, none⟩ (.int .i64 0)).setCell ⟨s + 1, 2, none⟩ (.int .i64 0)).setCell ⟨s + 1, 3, none⟩ (.int .i64 0)).setCell ⟨s + 1 + 1, 0, none⟩ (.bool false)) = W5 := ⟨_, rfl⟩
    rw [hW5] at hp hb hB2 hK' ⊢
    refine ⟨by simp, .inl ⟨_, _, rfl, run_takeDeferred hK', ?_⟩⟩
    have hp6 := (hp.kept (grownBy_putObj' W5 D (.deferred none)) (fun e => by cases e; rw [show W5.heap[s + 1]? = _ from hp] at hK'; cases hK')).cells
    have hb6 := (hb.kept (grownBy_putObj' W5 D (.deferred none)) (fun e => by cases e; rw [show W5.heap[s + 1 + 1]? = _ from hb] at hK'; cases hK')).cell
    obtain ⟨y1, y2, y3, y4⟩ := hp6
    refine ⟨optV none, ?_, by rw [hnone], by rw [hs]; exact hB2.trans (belowK_b (w := W0) (by omega) _ D _ _ hD hK' rfl rfl)⟩
    simp [results, Try.f10, go_sem, y1, y2, y3, y4, hb6, optV, encPt, zeroPt]
  case stop =>
    rintro D c pre W hD hpre ⟨⟨⟨rfl, pre0, x, rfl, i1, i2, i3⟩, i4⟩, i5⟩ hK
    have hsome : (upTo 7).find? (ofB q) = some x := by
      obtain ⟨t, ht⟩ := hpre
      rw [← ht, List.find?_append, List.find?_append, List.find?_eq_none.2 (fun y hy => by simp [i1 y hy])]
      simp [i2]
    gi_wp2
    refine ⟨by simp, .inl ⟨_, _, rfl, run_takeDeferred hK, ?_⟩⟩
    have hp6 := (i3.kept (grownBy_putObj' W D (.deferred none)) (fun e => by cases e; rw [show W.heap[s + 1]? = _ from i3] at hK; cases hK)).cells
    have hb6 := (i4.kept (grownBy_putObj' W D (.deferred none)) (fun e => by cases e; rw [show W.heap[s + 1 + 1]? = _ from i4] at hK; cases hK)).cell
    obtain ⟨y1, y2, y3, y4⟩ := hp6
    refine ⟨optV (some x), ?_, by rw [hsome], by rw [hs]; exact i5.trans (belowK_b (w := W0) (by omega) _ D _ _ hD hK rfl rfl)⟩
    simp [results, Try.f10, go_sem, y1, y2, y3, y4, hb6, optV, encPt]

theorem keepsAbove_set {n₁ B i : Nat} (h : B < n₁) (W : World) (v : Value) : KeepsAbove n₁ W (W.setCell ⟨B, i, none⟩ v) := fun p u hp hc => by
  have := Below.heap_setCell W ⟨B, i, none⟩ v p.block (fun e => by have : p.block = B := e; omega)
  unfold World.cell? at hc ⊢
  rw [this]; exact hc
def sumW (l : List Pt) : Int := l.foldl (fun a x => wrap64 (a + x.s)) 0
theorem sumW_snoc (l : List Pt) (x : Pt) : sumW (l ++ [x]) = wrap64 (sumW l + x.s) := by simp [sumW]
set_option maxRecDepth 100000 in
theorem sumW_all : sumW (upTo 7) = 23168 := by kernel_rfl
set_option maxRecDepth 100000 in
set_option maxHeartbeats 2000000 in
theorem size_w (w : World) : Calls Try.prog 13 #[] w fun e w' => e = .returned (.int .i64 23168) ∧ Below w.heap.size w w' := by
  refine (callsIn_wide (n := 5)).1 ?_
  refine callsIn_of_wp_marks Try.func13 rfl trivial ?_ rfl
  simp only [Try.ntmps13, List.size_toArray, List.length_nil, Nat.reduceSub, Array.replicate_succ, Array.replicate_zero, List.push_toArray, List.append_toArray, List.nil_append, List.cons_append]
  gi_wp2_with fail
  obtain ⟨s, hs⟩ : ∃ s, w.heap.size = s := ⟨_, rfl⟩
  have bK := Boxed.new w 3 (.int .i64 0)
  have hB0 : Below w.heap.size w (w.alloc (.cells #[.int .i64 0] 3)) := (Below.refl _ w).alloc (Nat.le_refl _) _
  have hsz : (w.alloc (.cells #[.int .i64 0] 3)).heap.size = s + 1 := by simp [hs]
  obtain ⟨W0, hW0⟩ : ∃ W0, w.alloc (.cells #[.int .i64 0] 3) = W0 := ⟨_, rfl⟩
  rw [hW0] at bK hB0 hsz ⊢
  rw [hs] at bK hB0 ⊢
  clear hW0
  refine wpIn_rangeFunc_ownH rfl (by decide) (gf := 14) (lb := #[]) rfl trivial (enters_of Try.func14 (by kernel_rfl) rfl)
    (parts_stops (5 - 1) (s + 1) (by decide) W0 (by omega)) (fun h k => h.trans k) (fun W l o o' _ h hc _ => keepsAbove_b W l o o' h hc) (Below.refl _ _) (fun _ => rfl)
    (fun pre W => Boxed W s 3 (.int .i64 (sumW pre)) ∧ Below s w W)
    (fun _ _ _ => False)
    (OwnFrom.and (Own.from (boxed_own _ _ _) _) (ownFrom_below (by omega) (by omega)))
    (fun _ _ _ _ _ hs _ _ => hs)
    ⟨bK, hB0⟩
    (fun x a' W => ∃ Bx, s < Bx ∧ PtAt W Bx x ∧ a' = { tmps := #[.int .i64 0, .pointer (some ⟨s, 0, none⟩), .pointer (some ⟨Bx, 0, none⟩), encPt x, undef, undef, undef, undef, undef], defers := [] })
    (fun x a' _ X Y row hs hg hr => by obtain ⟨Bx, h1, h2, h3⟩ := hs; exact ⟨Bx, h1, PtAt.from_ Bx _ (fun (_ : Unit) => x) () X Y row h2 hg hr, h3⟩)
    ?assign ?body ?done ?stop
  case assign =>
    rintro l pre x W K ⟨i1, i6⟩ hK
    simp only [encPt]
    gi_wp2
    exact hK _ _ ((KeepsOthers.alloc _ _).from _) (KeepsAbove.alloc _ _ _) ⟨i1.alloc _, i6.alloc (by rw [← hs]; exact i6.size) _⟩ ⟨W.heap.size, i1.lt, PtAt.new W x, rfl⟩
  case body =>
    rintro l pre x a' W hl hr ⟨i1, i6⟩ ⟨Bx, hBx, bX, rfl⟩ hlt
    have c1 := i1.cell
    have f1 := i1.frozen
    obtain ⟨x1, x2, x3, x4⟩ := bX.cells
    gi_wp2_with fail
    exact ⟨(KeepsOthers.setCell _ _ _).from _, keepsAbove_set (by omega) _ _, by rw [sumW_snoc]; exact i1.set _, i6.setCell (p := ⟨s, 0, none⟩) (Nat.le_refl _) _⟩
  case done =>
    rintro D ys W hD rfl ⟨i1, i6⟩ hK
    have c1 := i1.cell
    gi_wp2_with fail
    refine ⟨by simp, .inl ⟨_, _, rfl, run_takeDeferred hK, ?_⟩⟩
    exact ⟨_, results_tmp rfl _ _ _, by first | rfl | simp [sumW_all], by rw [hs]; exact i6.trans (belowK_b (w := W0) (by omega) _ D _ _ hD hK rfl rfl)⟩
  case stop =>
    rintro D c pre W _ _ h _
    exact h.elim
end Go.Proofs.Ytallhdjmmliehaa
