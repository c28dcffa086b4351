/- Rows of patches, rows of such rows: what is appended and what is read. num.may and num.Up. plog.Encode. What a transaction's patches lay over bytes: in plain words. No statement of the seat is proved here. -/
import Derived.Test.YtlinlmimakealaaZ10
import Derived.Test.YtlinlmimakealaaZ03
import Derived.Test.YtlinlmimakealaaZ02
import Derived.Test.YtlinlmimakealaaZ09
import Derived.Test.YtlinlmimakealaaZ08
namespace Go.Proofs.Ytlinlmimakealaa
open Go.RowKit

def PT.cells (r : PT) : List Value := [.int .i64 r.pos, .string r.dat]
def pcs (L : List PT) : List Value := L.flatMap PT.cells
theorem pcs_append (a b : List PT) : pcs (a ++ b) = pcs a ++ pcs b := by simp [pcs]
theorem pcs_length (a : List PT) : (pcs a).length = a.length * 2 := by
  induction a with
  | nil => rfl
  | cons r a ih => rw [show pcs (r :: a) = PT.cells r ++ pcs a from rfl, List.length_append, ih]; simp [PT.cells]; omega
theorem pcs_one (a : List PT) : ∀ u ∈ pcs a, u.oneCell' = true := by
  intro u hu
  obtain ⟨r, -, hr⟩ := List.mem_flatMap.1 hu
  simp [PT.cells] at hr
  rcases hr with rfl | rfl <;> rfl
theorem pcs_get (L : List PT) (i j : Nat) (hi : i < L.length) (hj : j < 2) : (pcs L)[i * 2 + j]? = (PT.cells L[i])[j]? := by
  induction L generalizing i with
  | nil => simp at hi
  | cons r L ih =>
    rw [show pcs (r :: L) = PT.cells r ++ pcs L from rfl]
    match i with
    | 0 => rw [List.getElem?_append_left (by simp [PT.cells]; omega)]; simp
    | i + 1 =>
      rw [List.getElem?_append_right (by simp [PT.cells]; omega), show (i + 1) * 2 + j - (PT.cells r).length = i * 2 + j by simp [PT.cells]; omega]
      exact ih i (by simpa using hi)

/-- A row of patches of the call's own; a slice that reads as patches. -/
def OP (w : World) (base : Nat) (v : Value) (L : List PT) : Prop := w.ownsRow base 37 2 v L.length (pcs L)
def RP (w : World) (A : Option Addr) (n : Nat) (L : List PT) : Prop := L.length = n ∧ n ≤ 1073741000 ∧ Rd w w.heap.size A 2 n (pcs L)
theorem OP.nil (w : World) (base : Nat) : OP w base (.slice none 0 0) [] := World.ownsRow_nil _ _ _ _
theorem OP.alloc {w : World} {base : Nat} {v : Value} {L : List PT} (h : OP w base v L) (o : Obj) : OP (w.alloc o) base v L := World.ownsRow.alloc h o
theorem OP.low {w : World} {base B : Nat} {v : Value} {L : List PT} (h : OP w base v L) (hB : B ≤ base) : OP w B v L := World.ownsRow.mono h hB
theorem grow_by {w w' : World} (g : Grow w w') : w.grownBy w' none := ⟨g.os, g.tape, g.output, g.size, fun k hk _ => g.block k hk⟩
theorem own_none' (v : Value) : v.ownBlock = none ∨ v.ownBlock ≠ none := by cases v.ownBlock <;> simp
theorem OP.keep {w w' : World} {base : Nat} {v : Value} {L : List PT} (h : OP w base v L) (g : Grow w w') : OP w' base v L := World.ownsRow.kept h (grow_by g) (own_none' v)
/-- A row lies on where only other blocks turn. -/
theorem row_turn {w w' : World} {F : Nat → Prop} {base size n : Nat} {e : TypeId} {v : Value} {xs : List Value} (h : w.ownsRow base e size v n xs) (t : Turn F w w') (hF : ∀ g, v.ownBlock = some g → ¬ F g) : w'.ownsRow base e size v n xs := by
  obtain ⟨h1, h2⟩ := h
  refine ⟨h1, ?_⟩
  rcases h2 with h2 | ⟨g, cap, cur, hv, hb, hg, h3⟩
  · exact .inl h2
  · have hlt : g < w.heap.size := (Array.getElem?_eq_some_iff.1 hg).1
    exact .inr ⟨g, cap, cur, hv, hb, (t.block g hlt (hF g (by rw [hv]; rfl))).trans hg, h3⟩
theorem OP.turn {w w' : World} {F : Nat → Prop} {base : Nat} {v : Value} {L : List PT} (h : OP w base v L) (t : Turn F w w') (hF : ∀ g, v.ownBlock = some g → ¬ F g) : OP w' base v L := row_turn h t hF
theorem OP.rp {w : World} {base : Nat} {v : Value} {L : List PT} (h : OP w base v L) (hl : L.length ≤ 1073741000) : ∃ A c, v = .slice A L.length c ∧ L.length ≤ c ∧ RP w A L.length L := by
  obtain ⟨A, c, rfl, h1, -, -, -⟩ := own_form h
  exact ⟨A, c, rfl, h1, rfl, hl, Rd.of_own h⟩
section
variable {w w' : World} {A : Option Addr} {n : Nat} {L : List PT} {F : Nat → Prop}
theorem RP.keep (h : RP w A n L) (g : Grow w w') : RP w' A n L := ⟨h.1, h.2.1, (Rd.below h.2.2 g).more g.size⟩
theorem RP.nil : RP w A 0 [] := ⟨rfl, by omega, Rd.nil⟩
theorem RP.turn (h : RP w A n L) (t : Turn F w w') (hA : 0 < n → ∀ p, A = some p → ¬ F p.block) : RP w' A n L := by
  refine ⟨h.1, h.2.1, h.2.2.1, fun hn => ?_⟩
  obtain ⟨b, o, e, hb, hc⟩ := h.2.2.2 hn
  exact ⟨b, o, e, Nat.lt_of_lt_of_le hb t.size, fun j u hu => (t.cell (p := ⟨b, o + j, none⟩) hb (hA hn ⟨b, o, none⟩ e)).trans (hc j u hu)⟩
theorem RP.at_ (h : RP w A n L) {i : Nat} (hi : i < n) : ∃ b o r, L[i]? = some r ∧ A = some ⟨b, o, none⟩ ∧ b < w.heap.size ∧ w.cell? ⟨b, o + i * 2, none⟩ = some (.int .i64 r.pos) ∧ w.cell? ⟨b, o + i * 2 + 1, none⟩ = some (.string r.dat) := by
  obtain ⟨hn, -, hl, hr⟩ := h
  obtain ⟨b, o, rfl, hb, hc⟩ := hr (by omega)
  have hi' : i < L.length := by omega
  refine ⟨b, o, L[i], by simp [hi'], rfl, hb, ?_, ?_⟩
  · have := hc (i * 2 + 0) _ ((pcs_get L i 0 hi' (by omega)).trans rfl); simpa [Nat.add_assoc] using this
  · have := hc (i * 2 + 1) _ ((pcs_get L i 1 hi' (by omega)).trans rfl); simpa [Nat.add_assoc] using this
theorem RP.take (h : RP w A n L) {k : Nat} (hk : k ≤ n) : RP w A k (L.take k) := by
  obtain ⟨h1, h2, h3⟩ := h
  refine ⟨by rw [List.length_take]; omega, by omega, ?_⟩
  have e : pcs (L.take k) = (pcs L).take (k * 2) := by
    have := pcs_append (L.take k) (L.drop k)
    rw [List.take_append_drop] at this
    rw [this, List.take_left' (by rw [pcs_length, List.length_take]; congr 1; omega)]
  rw [e]
  exact Rd.take h3 hk
end

theorem pt_info : (Try.prog.info? 37).map (fun i => (i.zero, i.size, i.bytes)) = some (some (.agg #[.int .i64 0, .string ⟨#[]⟩]), 2, 24) := by kernel_rfl
theorem pts_info : (Try.prog.info? 34).map (fun i => (i.zero, i.size, i.bytes)) = some (some (.slice none 0 0), 1, 24) := by kernel_rfl

/-- 'append' at patches. -/
theorem wpList_appP {w : World} {ops : Array Oper} {rest : List Oper} {o : Oper} {a : Act} {Q : Exit → Act → World → Prop} (hgd : o.guard = none) (s x : Operand)
    (ho : o.op = .call { callee := .builtin .append, args := #[s, x], argTypes := #[34, 34] })
    (base : Nat) (v : Value) (L : List PT) (hs : a.eval s = v) (hown : OP w base v L)
    (B : Nat) (A : Option Addr) (c : Nat) (news : List PT) (m : Nat) (hm : m = news.length) (hx : a.eval x = .slice A m c) (hr : Rd w B A 2 news.length (pcs news))
    (h63 : L.length + news.length ≤ 1000000) (hbase : base ≤ w.heap.size)
    (h : ∀ v' w', OP w' base v' (L ++ news) → w.grownBy w' v.ownBlock → (v'.ownBlock = v.ownBlock ∨ v'.ownBlock = some w.heap.size) → wpList Try.prog ops Q rest (a.put o.dst v') w') : wpList Try.prog ops Q (o :: rest) a w := by
  subst hm
  obtain ⟨i0, hi, hz, h1, h2⟩ := info_parts pt_info
  refine wpList_app hgd s x _ ho base 37 i0 _ 2 24 Try.underlying34 hi hz h1 h2 rfl (by omega) v L.length (pcs L) hs hown B A news.length c (pcs news) hx hr (pcs_one news) (by unfold maxLen; omega) (by omega) hbase ?_
  intro v' w' h3 h4 h5
  exact h v' w' (by unfold OP; rw [List.length_append, pcs_append]; exact h3) h4 h5

theorem Rd.litP (w : World) (t : TypeId) (vs : List Value) (size n : Nat) (hn : vs.length = n * size) : Rd (w.alloc (.cells vs.toArray t)) (w.heap.size + 1) (some ⟨w.heap.size, 0, none⟩) size n vs := by
  refine ⟨hn, fun _ => ⟨_, _, rfl, by omega, fun j u hu => ?_⟩⟩
  rw [cell_of_row _ _ (0 + j) vs.toArray t (0, 0) (heap_alloc_new w _)]
  simpa using hu

/-- 'append(out, p)': one patch, which the translation lays in a new block first. -/
theorem wpList_appP1 {w : World} {ops : Array Oper} {rest : List Oper} {o : Oper} {a : Act} {Q : Exit → Act → World → Prop} (hgd : o.guard = none) (s x : Operand)
    (ho : o.op = .call { callee := .builtin .append, args := #[s, x], argTypes := #[34, 34] })
    (base : Nat) (v : Value) (L : List PT) (hs : a.eval s = v) (r : PT) (hx : a.eval x = .slice (some ⟨w.heap.size, 0, none⟩) 1 1) (hown : OP w base v L)
    (h63 : L.length + 1 ≤ 1000000) (hbase : base ≤ w.heap.size)
    (h : ∀ v' w', OP w' base v' (L ++ [r]) → Below base w w' → wpList Try.prog ops Q rest (a.put o.dst v') w') : wpList Try.prog ops Q (o :: rest) a (w.alloc (.cells #[.int .i64 r.pos, .string r.dat] 37)) := by
  refine wpList_appP hgd s x ho base v L hs (hown.alloc _) (w.heap.size + 1) (some ⟨w.heap.size, 0, none⟩) 1 [r] 1 rfl hx (Rd.litP w _ (pcs [r]) 2 1 rfl) h63 (by simp; omega) ?_
  intro v' w' q1 q2 q3
  exact h v' w' q1 (((Below.refl _ _).alloc hbase _).trans ((Below.refl _ _).grown q2 (by simp; omega) (fun k hk => (World.ownsRow.lt hown k hk).1)))

/-! ### rows of rows -/
structure RW where
  v : Value
  L : List PT
def RW.vals (R : List RW) : List Value := R.map RW.v
/-- A row of rows of patches, all of the call's own, none of them the row itself. -/
def OW (w : World) (base : Nat) (v : Value) (R : List RW) : Prop :=
  w.ownsRow base 34 1 v R.length (R.map RW.v) ∧ (∀ r ∈ R, OP w base r.v r.L) ∧ ∀ r ∈ R, ∀ g, r.v.ownBlock = some g → v.ownBlock ≠ some g
theorem OW.nil (w : World) (base : Nat) : OW w base (.slice none 0 0) [] := ⟨World.ownsRow_nil _ _ _ _, fun _ h => by simp at h, fun _ h => by simp at h⟩
theorem OW.turn {w w' : World} {F : Nat → Prop} {base : Nat} {v : Value} {R : List RW} (h : OW w base v R) (t : Turn F w w') (hF : ∀ g, F g → g < base ∨ w.heap.size ≤ g) : OW w' base v R := by
  refine ⟨row_turn h.1 t fun g hg q => ?_, fun r hr => (h.2.1 r hr).turn t fun g hg q => ?_, h.2.2⟩
  · have := World.ownsRow.lt h.1 g hg; have := hF g q; omega
  · have := World.ownsRow.lt (h.2.1 r hr) g hg; have := hF g q; omega
theorem OW.keep {w w' : World} {base : Nat} {v : Value} {R : List RW} (h : OW w base v R) (g : Grow w w') : OW w' base v R := h.turn (F := fun _ => False) (Turn.grow g _) fun _ q => q.elim
theorem OW.low {w : World} {base B : Nat} {v : Value} {R : List RW} (h : OW w base v R) (hB : B ≤ base) : OW w B v R := ⟨World.ownsRow.mono h.1 hB, fun r hr => (h.2.1 r hr).low hB, h.2.2⟩
theorem slice_one (v : Value) (h : ∃ A n c, v = .slice A n c) : v.oneCell' = true := by
  obtain ⟨A, n, c, rfl⟩ := h; rfl
theorem OP.form {w : World} {base : Nat} {v : Value} {L : List PT} (h : OP w base v L) : ∃ A c, v = .slice A L.length c ∧ L.length ≤ c := by
  obtain ⟨A, c, rfl, h1, -, -, -⟩ := own_form h
  exact ⟨A, c, rfl, h1⟩
/-- 'append(out, p)': one row. -/
theorem wpList_appW {w : World} {ops : Array Oper} {rest : List Oper} {o : Oper} {a : Act} {Q : Exit → Act → World → Prop} (hgd : o.guard = none) (s x : Operand)
    (ho : o.op = .call { callee := .builtin .append, args := #[s, x], argTypes := #[111, 111] })
    (base : Nat) (v : Value) (R : List RW) (hs : a.eval s = v) (r : RW) (u : Value) (hu : r.v = u) (hx : a.eval x = .slice (some ⟨w.heap.size, 0, none⟩) 1 1) (hown : OW w base v R)
    (hr : OP w base r.v r.L) (hrv : ∀ g, r.v.ownBlock = some g → v.ownBlock ≠ some g)
    (h63 : R.length + 1 ≤ 1000000) (hbase : base ≤ w.heap.size)
    (h : ∀ v' w', OW w' base v' (R ++ [r]) → Turn (fun k => v.ownBlock = some k) w w' → Below base w w' → wpList Try.prog ops Q rest (a.put o.dst v') w') : wpList Try.prog ops Q (o :: rest) a (w.alloc (.cells #[u] 34)) := by
  subst hu
  obtain ⟨i0, hi, hz, h1, h2⟩ := info_parts pts_info
  obtain ⟨ho1, ho2, ho3⟩ := hown
  have hone : r.v.oneCell' = true := slice_one _ (by obtain ⟨A, c, e, -⟩ := hr.form; exact ⟨_, _, _, e⟩)
  refine wpList_app hgd s x _ ho base 34 i0 _ 1 24 Try.underlying111 hi hz h1 h2 rfl (by omega) v R.length _ hs (World.ownsRow.alloc ho1 _) (w.heap.size + 1) (some ⟨w.heap.size, 0, none⟩) 1 1 [r.v] hx (Rd.litP w _ [r.v] 1 1 rfl) (by intro q hq; simp at hq; subst hq; exact hone) (by unfold maxLen; omega) (by omega) (by simp; omega) ?_
  intro v' w' h3 h4 h5
  have ha := Turn.grow ((Grow.refl w).alloc (.cells #[r.v] 34)) fun k => v.ownBlock = some k
  have ht : Turn (fun k => v.ownBlock = some k) w w' := ha.and (Turn.grown h4 fun j hj => hj)
  refine h v' w' ⟨?_, ?_, ?_⟩ ht (ht.low (fun i hi => (World.ownsRow.lt ho1 i hi).1) hbase)
  · rw [List.length_append, List.map_append]; exact h3
  · intro q hq
    rcases List.mem_append.1 hq with hq | hq
    · exact (ho2 q hq).turn ht fun g hg hv => ho3 q hq g hg hv
    · simp at hq
      subst hq
      exact hr.turn ht fun g hg hv => hrv g hg hv
  · intro q hq g hg hv
    have hlt : g < w.heap.size ∧ v.ownBlock ≠ some g := by
      rcases List.mem_append.1 hq with hq | hq
      · exact ⟨(World.ownsRow.lt (ho2 q hq) g hg).2, ho3 q hq g hg⟩
      · simp at hq
        subst hq
        exact ⟨(World.ownsRow.lt hr g hg).2, hrv g hg⟩
    rcases h5 with h5 | h5
    · exact hlt.2 (h5 ▸ hv)
    · rw [h5] at hv
      injection hv with hv
      simp at hv
      omega
end Go.Proofs.Ytlinlmimakealaa

namespace Go.Proofs.Ytlinlmimakealaa
open Go.RowKit

/-- num.may, num.Up, num.Down. -/
theorem num_may (n tz : Int) (w : World) : Calls Try.prog 61 #[.int .i64 n, .int .i64 tz] w fun e w' => e = .returned (.bool (mayB n tz)) ∧ w = w' := by
  go_enter Try.func61, Try.ntmps61
  go_wp2
  all_goals (go_ret; refine ⟨ret_bool ?_, rfl⟩)
  all_goals (rw [Bool.eq_iff_iff]; simp [mayB])
  all_goals omega

theorem num_up (n tz : Int) (w : World) : Calls Try.prog 35 #[.int .i64 n, .int .i64 tz] w fun e w' => e = .returned (.int .i64 (upN n tz)) ∧ w = w' := by
  by_cases hm : mayB n tz = true
  · obtain ⟨h1, h2, h3, h4⟩ := may_iff.1 hm
    have hu := up_bounds (n := n) h1
    have e : wrap64 ((n + tz - 1) / tz * tz) = upN n tz := by
      rw [IntWalk.wrap64_in _ ⟨by omega, by omega⟩]; simp [upN, hm]
    have HE := Lib.hid e
    clear e hu
    go_enter Try.func35, Try.ntmps35
    go_wp2_with (go_at_call 61; refine (num_may _ _ _).mono ?_; rintro e w' ⟨rfl, rfl⟩)
    go_ret
    exact ⟨ret_int HE.out, rfl⟩
  · have hm : mayB n tz = false := by simpa using hm
    go_enter Try.func35, Try.ntmps35
    go_wp2_with (go_at_call 61; refine (num_may _ _ _).mono ?_; rintro e w' ⟨rfl, rfl⟩)
    go_ret
    exact ⟨ret_int (by simp [upN, hm]), rfl⟩
end Go.Proofs.Ytlinlmimakealaa

namespace Go.Proofs.Ytlinlmimakealaa
open Go.RowKit

theorem up_fillP (n : Nat) (h : n ≤ 2000000000) : upN (n : Int) 8 = (n : Int) + (fillN n : Nat) := by
  have hm : mayB (n : Int) 8 = true := may_iff.2 ⟨by omega, by omega, by omega, by omega⟩
  rw [upN, if_pos hm, fillN]
  omega
theorem fill_ltP (n : Nat) : fillN n < 8 := by unfold fillN; omega
/-- What Encode tells. -/
def EncRes (w w' : World) (L : List PT) (e : Ending) : Prop :=
  (mayP L = true ∧ ∃ A' c', e = .returned (.tuple #[.slice A' (encP L).length c', .int .i64 0]) ∧ Own w' w.heap.size A' (encP L).length c' (encP L) ∧ Grow w w') ∨
  (mayP L = false ∧ e = .returned (.tuple #[.slice none 0 0, .int .i64 1]) ∧ Grow w w')
def PT.wide (p : PT) : Prop := -9223372036854775808 ≤ p.pos ∧ p.pos ≤ 9223372036854775807
def EncInv (w wr : World) (L : List PT) (v i : Value) : Prop := ∃ (k m : Nat) (A : Option Addr) (c : Nat), i = .int .i64 (k : Int) ∧ k ≤ L.length ∧ v = .slice A m c ∧ m ≤ 2 + 262 * k ∧ Own wr w.heap.size A m c (leB L.length 2 ++ encF (L.take k)) ∧ (L.take k).all PT.may = true ∧ Grow w wr

theorem take_may {L : List PT} {k : Nat} (hk : k < L.length) (h : (L.take k).all PT.may = true) (hr : L[k].may = true) : (L.take (k + 1)).all PT.may = true := by
  rw [List.take_succ_eq_append_getElem hk, List.all_append, h]; simp [hr]
theorem not_mayP {L : List PT} {k : Nat} (hk : k < L.length) (hr : L[k].may = false) : mayP L = false := by
  rw [Bool.eq_false_iff]
  intro q
  have := List.all_eq_true.1 (mayP_iff.1 q).2 L[k] (List.getElem_mem _)
  rw [hr] at this
  cases this
theorem encF_take {L : List PT} {k : Nat} (hk : k < L.length) : encF (L.take (k + 1)) = encF (L.take k) ++ L[k].enc := by
  rw [List.take_succ_eq_append_getElem hk, encF_append]; simp [encF]

theorem wrap_small1 {k : Nat} (h : k < 64) : wrap64 ((k : Int) + 1) = (k : Int) + 1 := IntWalk.wrap64_in _ (by omega)
theorem measP {M k : Nat} (h : k < M) : M - (intOf (.int .i64 ((k : Int) + 1))).toNat < M - (intOf (.int .i64 (k : Int))).toNat := by simp [intOf]; omega
theorem measPW {M k : Nat} (h : k < M) (e : wrap64 ((k : Int) + 1) = (k : Int) + 1) : M - (intOf (.int .i64 (wrap64 ((k : Int) + 1)))).toNat < M - (intOf (.int .i64 (k : Int))).toNat := by rw [e]; exact measP h

theorem pl_encode_long {w : World} {A : Option Addr} {n c : Nat} {L : List PT} (hn : L.length = n) (hl : 64 < n) :
    Calls Try.prog 13 #[.slice A n c] w fun e w' => EncRes w w' L e := by
  have HM := Lib.hid (show mayP L = false by rw [Bool.eq_false_iff]; intro q; have := (mayP_iff.1 q).1; omega)
  have z1 : decide (64 < n) = true := decide_eq_true hl
  have z2 : decide ((64 : Int) < (n : Int)) = true := decide_eq_true (by omega)
  clear hn
  go_enter Try.func13, Try.ntmps13
  go_wp2_with fail
  go_ret2
  exact .inr ⟨HM.out, rfl, Grow.refl _⟩

set_option maxHeartbeats 4000000 in
set_option maxRecDepth 8000 in
theorem pl_encode_go {w : World} {A : Option Addr} {n c : Nat} {L : List PT} (hr : RP w A n L) (hl : n ≤ 64) (hw : ∀ p ∈ L, p.wide) :
    Calls Try.prog 13 #[.slice A n c] w fun e w' => EncRes w w' L e := by
  have HR := Lib.hid hr
  have HN := Lib.hid hr.1
  have HW := Lib.hid hw
  have z1 : decide (64 < n) = false := decide_eq_false (by omega)
  have z2 : decide ((64 : Int) < (n : Int)) = false := decide_eq_false (by omega)
  clear hr hw
  go_enter Try.func13, Try.ntmps13
  go_wp2_with fail
  refine (put_s (n := 0) (bs := []) 2 Sl.nil (by simp [fitsB]; omega) (by omega) (by simp) (by omega)).mono ?_
  rintro e w1 ⟨A1, c1, rfl, o1, g1⟩
  have HI := Lib.hid (show EncInv w w1 L (.slice A1 2 c1) (.int .i64 0) from ⟨0, 2, A1, c1, rfl, by omega, rfl, by omega, by simpa [encF, HN.out] using o1, by simp, g1⟩)
  clear o1 g1
  go_wp2_with fail
  go_loopw [4, 15] (fun v t wr => EncInv w wr L v t) (fun _ t _ => n - (intOf t).toNat)
  case atStart => exact HI.out
  case round =>
    obtain ⟨k, m, A2, c2, rfl, hk, rfl, hm, o2, hall, g2⟩ := hrel
    clear HI
    by_cases hlt : k < n
    · obtain ⟨b, o, r, hrk, rfl, hb, d0, d1⟩ := HR.out.at_ hlt
      obtain ⟨hk1, hk2⟩ := List.getElem?_eq_some_iff.1 hrk
      have hwd := HW.out r (by rw [← hk2]; exact List.getElem_mem _)
      have e0 := g2.cell d0
      have e1 := g2.cell d1
      have HRK := Lib.hid hk2
      have HWD := Lib.hid hwd
      have HALL := Lib.hid hall
      have hbz : b ≠ wr.heap.size := by have := g2.size; omega
      clear d0 d1 hrk hwd hall hk2
      go_wp2_with fail
      refine (num_fits r.pos 4 HWD.out.1 HWD.out.2 _).mono ?_
      rintro e w' ⟨rfl, rfl⟩
      cases hf : fitsB r.pos 4 with
      | false =>
        have HM := Lib.hid (show mayP L = false from not_mayP (k := k) hk1 (by rw [HRK.out, PT.may, hf]; rfl))
        clear hf
        go_wp2_with fail
        go_ret2
        exact .inr ⟨HM.out, rfl, g2.alloc _⟩
      | true =>
        by_cases hs : 256 < r.dat.size
        · have HM := Lib.hid (show mayP L = false from not_mayP (k := k) hk1 (by rw [HRK.out, PT.may, hf]; simp; omega))
          have y1 : decide (256 < r.dat.size) = true := decide_eq_true hs
          have y2 : decide ((256 : Int) < (r.dat.size : Int)) = true := decide_eq_true (by omega)
          clear hf
          go_wp2_with fail
          go_ret2
          exact .inr ⟨HM.out, rfl, g2.alloc _⟩
        · have HF := Lib.hid hf
          have y1 : decide (256 < r.dat.size) = false := decide_eq_false hs
          have y2 : decide ((256 : Int) < (r.dat.size : Int)) = false := decide_eq_false (by omega)
          have hsz : r.dat.size ≤ 256 := by omega
          have HMAY := Lib.hid (take_may (k := k) hk1 HALL.out (by rw [HRK.out, PT.may, hf]; simp; omega))
          clear hf hs
          have s2 := o2.sl
          have HS3 := Lib.hid (s2.alloc (.cells #[.int .i64 r.pos, .string r.dat] 37))
          have R3 := Row.new wr 37 [.int .i64 r.pos, .string r.dat] _ rfl
          have HG3 := Lib.hid (g2.alloc (.cells #[.int .i64 r.pos, .string r.dat] 37))
          have HO := Lib.hid o2
          have hmb : m ≤ 20000 := by omega
          have hm4 : m + (Int.toNat 4) = m + 4 := rfl
          clear s2 o2
          go_wp2_with fail
          refine (put_s (m + 4) HS3.out HF.out HWD.out.2 hm4 (by omega)).mono ?_
          rintro e w4 ⟨A4, c4, rfl, o4, g4⟩
          have R4 := R3.keep g4
          have HG4 := Lib.hid (HG3.out.trans g4)
          have s4 := o4.sl
          have l4 := g4.size
          have f0 := R4.1.2 0 _ rfl; have f1 := R4.1.2 1 _ rfl
          clear HS3 o4 R3
          go_wp2_with fail
          refine (put_s (m + 6) s4 (k := (r.dat.size : Int)) (by simp [fitsB]; omega) (by omega) (by simp) (by omega)).mono ?_
          rintro e w5 ⟨A5, c5, rfl, o5, g5⟩
          have R5 := R4.keep g5
          have HG5 := Lib.hid (HG4.out.trans g5)
          have h0 := R5.1.2 0 _ rfl; have h1 := R5.1.2 1 _ rfl
          have o5' := o5.low (B := w.heap.size) (Nat.le_trans HG3.out.size (by simpa using l4))
          have HZ5 := Lib.hid HG5.out.size
          have HL5 := Lib.hid o5'.1
          clear o5 s4 f0 f1 R4 l4
          go_wp2_with (at_builtin; refine wpList_appS rfl (.tmp 38) (.tmp 40) rfl w.heap.size _ _ rfl o5'.2.2 r.dat rfl (by rw [HL5.out]; omega) HZ5.out ?_; intro v6 w6 q1 q2; obtain ⟨A6, c6, rfl, o6⟩ := Own.ofOB q1 (m + 6 + r.dat.size) (by rw [List.length_append, HL5.out]; exact congrArg _ (PT.txt_length r)) (by omega); clear q1)
          have X : EncInv w w6 L (.slice A6 (m + 6 + r.dat.size) c6) (.int .i64 ((k : Int) + 1)) := ⟨k + 1, _, A6, c6, by simp, hk1, rfl, by omega, by
            have := encF_take (L := L) (k := k) hk1
            rw [this, HRK.out, PT.enc]
            simpa [List.append_assoc, PT.txt] using o6, HMAY.out, HG5.out.low q2⟩
          have e5 := wrap_small1 (show k < 64 by omega)
          clear o6 q2 o5' h0 h1 R5
          go_roundw
          case rel => (try rw [e5]); first | exact X | ((repeat apply Exists.intro); exact X) | ((repeat apply Exists.intro); refine ⟨X, ?_⟩; rfl)
          case measure => first | exact measP hlt | exact measPW hlt e5
    · obtain rfl : k = n := by have := HN.out; omega
      have HMAY := Lib.hid (show mayP L = true from mayP_iff.2 ⟨by have := HN.out; omega, by rw [List.take_of_length_le (by have := HN.out; omega)] at hall; exact hall⟩)
      have HB := Lib.hid (show leB L.length 2 ++ encF (L.take k) = bodyP L by rw [List.take_of_length_le (by have := HN.out; omega)]; rfl)
      have HO := Lib.hid o2
      have HG := Lib.hid g2
      have hmb : m ≤ 20000 := by omega
      have s2 := o2.sl
      have HEQ := Lib.hid (encP_le HMAY.out)
      obtain ⟨bd, hbd⟩ : ∃ bd, bd = bodyP L := ⟨_, rfl⟩
      rw [HB.out, ← hbd] at s2
      have HBD := Lib.hid hbd
      have HLB := Lib.hid s2.1
      clear o2 hall g2 hlt hbd
      go_wp2_with fail
      refine (sum_s s2).mono ?_
      rintro e w3 ⟨q, rfl, hq, hq1, g3⟩
      have s3 := s2.keep g3
      have HG3 := Lib.hid (HG.out.trans g3)
      have hm4 : m + (Int.toNat 4) = m + 4 := rfl
      clear s2 g3
      go_wp2_with fail
      refine (put_s (m + 4) s3 (k := (q : Int)) (by simp [fitsB]; omega) (by omega) hm4 (by omega)).mono ?_
      rintro e w4 ⟨A4, c4, rfl, o4, g4⟩
      have HG4 := Lib.hid (HG3.out.trans g4)
      have HZ4 := Lib.hid HG4.out.size
      have o4' := o4.low (B := w.heap.size) HG3.out.size
      have hbb : bd ++ leB (q : Int).toNat (Int.toNat 4) = sumB bd := by rw [hq.out]; rfl
      rw [hbb] at o4'
      have hlb : (sumB bd).length = m + 4 := by rw [sumB_length, HLB.out]
      have hfl := fill_ltP (m + 4)
      have hu := up_fillP (m + 4) (by omega)
      obtain ⟨f, hf⟩ : ∃ f, f = fillN (m + 4) := ⟨_, rfl⟩
      rw [← hf] at hfl hu
      have HF := Lib.hid hf
      have HU := Lib.hid hu
      have HLS := Lib.hid hlb
      have HO4 := Lib.hid o4'
      clear o4 g4 s3 hbb hlb hu hf o4' hq
      go_wp2_with fail
      refine (num_up _ _ _).mono ?_
      rintro e w' ⟨rfl, rfl⟩
      rw [show ((m : Int) + 4) = ((m + 4 : Nat) : Int) by simp, HU.out]
      obtain ⟨M, hM⟩ : ∃ M, M = m + 4 := ⟨_, rfl⟩
      have HO5 := Lib.hid (show Own w4 w.heap.size A4 M c4 (sumB bd) by rw [hM]; exact HO4.out)
      have hM2 : M ≤ 20004 := by omega
      have HM := Lib.hid hM
      rw [← hM]
      clear hM HO4
      go_wp2_with (at_builtin; refine wpList_appZ rfl (.tmp 48) (.tmp 54) rfl w.heap.size _ (sumB bd) rfl HO5.out.2.2 f _ (by first | rfl | omega) rfl (by rw [HLS.out]; omega) HZ4.out ?_; intro v9 w9 hown9 hb9)
      have he : sumB bd ++ List.replicate f 0 = encP L := by rw [encP, ← HBD.out, HF.out, HLS.out]
      rw [he] at hown9
      obtain ⟨A9, c9, rfl, o9⟩ := Own.ofOB hown9 _ rfl (by have := HEQ.out; omega)
      clear hown9
      go_ret2
      exact .inl ⟨HMAY.out, A9, c9, rfl, o9, HG4.out.low hb9⟩

theorem pl_encode {w : World} {A : Option Addr} {n c : Nat} {L : List PT} (hr : RP w A n L) (hw : ∀ p ∈ L, p.wide) :
    Calls Try.prog 13 #[.slice A n c] w fun e w' => EncRes w w' L e := by
  by_cases h : 64 < n
  · exact pl_encode_long hr.1 h
  · exact pl_encode_go hr (by omega) hw
end Go.Proofs.Ytlinlmimakealaa

namespace Go.Proofs.Ytlinlmimakealaa

/-- A patch laid over the bytes from place a on. -/
def ovB (bs : List UInt8) (a : Nat) (p : PT) : List UInt8 :=
  if max a p.pos.toNat < min (a + bs.length) (p.pos.toNat + p.dat.size) then
    putL bs (max a p.pos.toNat - a) ((p.txt.drop (max a p.pos.toNat - p.pos.toNat)).take (min (a + bs.length) (p.pos.toNat + p.dat.size) - max a p.pos.toNat))
  else bs
def ovL (bs : List UInt8) (a : Nat) (L : List PT) : List UInt8 := L.foldl (fun b p => ovB b a p) bs
theorem ovB_length (bs : List UInt8) (a : Nat) (p : PT) : (ovB bs a p).length = bs.length := by
  unfold ovB; split
  · rw [putL_length]
  · rfl
theorem ovL_length (L : List PT) (a : Nat) : ∀ bs : List UInt8, (ovL bs a L).length = bs.length := by
  induction L with
  | nil => intro bs; rfl
  | cons p L ih => intro bs; rw [ovL, List.foldl_cons]; exact (ih _).trans (ovB_length _ _ _)
theorem ovL_step {bs : List UInt8} {a : Nat} {L : List PT} {k : Nat} {r : PT} (h : L[k]? = some r) : ovL bs a (L.take (k + 1)) = ovB (ovL bs a (L.take k)) a r := by
  rw [ovL, ovL, List.take_add_one, h, List.foldl_append]; rfl
theorem ovB_get (bs : List UInt8) (a : Nat) (p : PT) (j : Nat) (hj : j < bs.length) :
    (ovB bs a p).getD j 0 = if p.pos.toNat ≤ a + j ∧ a + j < p.pos.toNat + p.dat.size then p.txt.getD (a + j - p.pos.toNat) 0 else bs.getD j 0 := by
  unfold ovB
  have ht := p.txt_length
  by_cases h : max a p.pos.toNat < min (a + bs.length) (p.pos.toNat + p.dat.size)
  · rw [if_pos h]
    have hl : ((p.txt.drop (max a p.pos.toNat - p.pos.toNat)).take (min (a + bs.length) (p.pos.toNat + p.dat.size) - max a p.pos.toNat)).length = min (a + bs.length) (p.pos.toNat + p.dat.size) - max a p.pos.toNat := by
      rw [List.length_take, List.length_drop, ht]; omega
    rw [putL_get _ _ _ _ (by rw [hl]; omega), hl]
    by_cases hc : p.pos.toNat ≤ a + j ∧ a + j < p.pos.toNat + p.dat.size
    · rw [if_pos hc, if_pos (by omega)]
      simp only [List.getD_eq_getElem?_getD, List.getElem?_take, List.getElem?_drop]
      rw [if_pos (by omega)]
      congr 2
      omega
    · rw [if_neg hc, if_neg (by omega)]
  · rw [if_neg h, if_neg (by omega)]
/-- The document's way: byte by byte. -/
theorem ovB_ext {bs b : List UInt8} {a : Nat} {p : PT} (hl : b.length = bs.length) (h : ∀ j, j < bs.length → b.getD j 0 = if p.pos.toNat ≤ a + j ∧ a + j < p.pos.toNat + p.dat.size then p.txt.getD (a + j - p.pos.toNat) 0 else bs.getD j 0) : b = ovB bs a p :=
  ext_getD (by rw [hl, ovB_length]) fun j hj => by rw [h j (by omega), ovB_get _ _ _ _ (by omega)]
/-- A patch that may be stored. -/
def PT.fits (p : PT) : Prop := 0 ≤ p.pos ∧ p.pos + (p.dat.size : Int) ≤ 1024 ∧ p.dat.size ≤ 256
theorem PT.fits.wide {p : PT} (h : p.fits) : p.wide := by
  unfold PT.wide
  obtain ⟨h1, h2, h3⟩ := h
  omega
end Go.Proofs.Ytlinlmimakealaa
