/- Rows of patches, rows of such rows: what is appended and what is read. bytes.Equal. commonsref08.Decode. num.may and num.Up. No statement of the seat is proved here. -/
import Derived.Test.YtncjfljmnkfghaaZ10
import Derived.Test.YtncjfljmnkfghaaZ03
import Derived.Test.YtncjfljmnkfghaaZ02
import Derived.Laws.BytesArg
import Derived.Test.YtncjfljmnkfghaaZ09
namespace Go.Proofs.Ytncjfljmnkfghaa
open Go.RowKit

def PT.cells (r : PT) : List Value := [.int .i64 r.pos, .string r.dat]
def pcs (L : List PT) : List Value := L.flatMap PT.cells
theorem pcs_append (a b : List PT) : pcs (a ++ b) = pcs a ++ pcs b := by simp [pcs]
theorem pcs_length (a : List PT) : (pcs a).length = a.length * 2 := by
  induction a with
  | nil => rfl
  | cons r a ih => rw [show pcs (r :: a) = PT.cells r ++ pcs a from rfl, List.length_append, ih]; simp [PT.cells]; omega
theorem pcs_one (a : List PT) : ∀ u ∈ pcs a, u.oneCell' = true := by
  intro u hu
  obtain ⟨r, -, hr⟩ := List.mem_flatMap.1 hu
  simp [PT.cells] at hr
  rcases hr with rfl | rfl <;> rfl
theorem pcs_get (L : List PT) (i j : Nat) (hi : i < L.length) (hj : j < 2) : (pcs L)[i * 2 + j]? = (PT.cells L[i])[j]? := by
  induction L generalizing i with
  | nil => simp at hi
  | cons r L ih =>
    rw [show pcs (r :: L) = PT.cells r ++ pcs L from rfl]
    match i with
    | 0 => rw [List.getElem?_append_left (by simp [PT.cells]; omega)]; simp
    | i + 1 =>
      rw [List.getElem?_append_right (by simp [PT.cells]; omega), show (i + 1) * 2 + j - (PT.cells r).length = i * 2 + j by simp [PT.cells]; omega]
      exact ih i (by simpa using hi)

/-- A row of patches of the call's own; a slice that reads as patches. -/
def OP (w : World) (base : Nat) (v : Value) (L : List PT) : Prop := w.ownsRow base 50 2 v L.length (pcs L)
def RP (w : World) (A : Option Addr) (n : Nat) (L : List PT) : Prop := L.length = n ∧ n ≤ 1073741000 ∧ Rd w w.heap.size A 2 n (pcs L)
theorem OP.nil (w : World) (base : Nat) : OP w base (.slice none 0 0) [] := World.ownsRow_nil _ _ _ _
theorem OP.alloc {w : World} {base : Nat} {v : Value} {L : List PT} (h : OP w base v L) (o : Obj) : OP (w.alloc o) base v L := World.ownsRow.alloc h o
theorem OP.low {w : World} {base B : Nat} {v : Value} {L : List PT} (h : OP w base v L) (hB : B ≤ base) : OP w B v L := World.ownsRow.mono h hB
theorem grow_by {w w' : World} (g : Grow w w') : w.grownBy w' none := ⟨g.os, g.tape, g.output, g.size, fun k hk _ => g.block k hk⟩
theorem own_none' (v : Value) : v.ownBlock = none ∨ v.ownBlock ≠ none := by cases v.ownBlock <;> simp
theorem OP.keep {w w' : World} {base : Nat} {v : Value} {L : List PT} (h : OP w base v L) (g : Grow w w') : OP w' base v L := World.ownsRow.kept h (grow_by g) (own_none' v)
/-- A row lies on where only other blocks turn. -/
theorem row_turn {w w' : World} {F : Nat → Prop} {base size n : Nat} {e : TypeId} {v : Value} {xs : List Value} (h : w.ownsRow base e size v n xs) (t : Turn F w w') (hF : ∀ g, v.ownBlock = some g → ¬ F g) : w'.ownsRow base e size v n xs := by
  obtain ⟨h1, h2⟩ := h
  refine ⟨h1, ?_⟩
  rcases h2 with h2 | ⟨g, cap, cur, hv, hb, hg, h3⟩
  · exact .inl h2
  · have hlt : g < w.heap.size := (Array.getElem?_eq_some_iff.1 hg).1
    exact .inr ⟨g, cap, cur, hv, hb, (t.block g hlt (hF g (by rw [hv]; rfl))).trans hg, h3⟩
theorem OP.turn {w w' : World} {F : Nat → Prop} {base : Nat} {v : Value} {L : List PT} (h : OP w base v L) (t : Turn F w w') (hF : ∀ g, v.ownBlock = some g → ¬ F g) : OP w' base v L := row_turn h t hF
theorem OP.rp {w : World} {base : Nat} {v : Value} {L : List PT} (h : OP w base v L) (hl : L.length ≤ 1073741000) : ∃ A c, v = .slice A L.length c ∧ L.length ≤ c ∧ RP w A L.length L := by
  obtain ⟨A, c, rfl, h1, -, -, -⟩ := own_form h
  exact ⟨A, c, rfl, h1, rfl, hl, Rd.of_own h⟩
section
variable {w w' : World} {A : Option Addr} {n : Nat} {L : List PT} {F : Nat → Prop}
theorem RP.keep (h : RP w A n L) (g : Grow w w') : RP w' A n L := ⟨h.1, h.2.1, (Rd.below h.2.2 g).more g.size⟩
theorem RP.nil : RP w A 0 [] := ⟨rfl, by omega, Rd.nil⟩
theorem RP.turn (h : RP w A n L) (t : Turn F w w') (hA : 0 < n → ∀ p, A = some p → ¬ F p.block) : RP w' A n L := by
  refine ⟨h.1, h.2.1, h.2.2.1, fun hn => ?_⟩
  obtain ⟨b, o, e, hb, hc⟩ := h.2.2.2 hn
  exact ⟨b, o, e, Nat.lt_of_lt_of_le hb t.size, fun j u hu => (t.cell (p := ⟨b, o + j, none⟩) hb (hA hn ⟨b, o, none⟩ e)).trans (hc j u hu)⟩
theorem RP.at_ (h : RP w A n L) {i : Nat} (hi : i < n) : ∃ b o r, L[i]? = some r ∧ A = some ⟨b, o, none⟩ ∧ b < w.heap.size ∧ w.cell? ⟨b, o + i * 2, none⟩ = some (.int .i64 r.pos) ∧ w.cell? ⟨b, o + i * 2 + 1, none⟩ = some (.string r.dat) := by
  obtain ⟨hn, -, hl, hr⟩ := h
  obtain ⟨b, o, rfl, hb, hc⟩ := hr (by omega)
  have hi' : i < L.length := by omega
  refine ⟨b, o, L[i], by simp [hi'], rfl, hb, ?_, ?_⟩
  · have := hc (i * 2 + 0) _ ((pcs_get L i 0 hi' (by omega)).trans rfl); simpa [Nat.add_assoc] using this
  · have := hc (i * 2 + 1) _ ((pcs_get L i 1 hi' (by omega)).trans rfl); simpa [Nat.add_assoc] using this
theorem RP.take (h : RP w A n L) {k : Nat} (hk : k ≤ n) : RP w A k (L.take k) := by
  obtain ⟨h1, h2, h3⟩ := h
  refine ⟨by rw [List.length_take]; omega, by omega, ?_⟩
  have e : pcs (L.take k) = (pcs L).take (k * 2) := by
    have := pcs_append (L.take k) (L.drop k)
    rw [List.take_append_drop] at this
    rw [this, List.take_left' (by rw [pcs_length, List.length_take]; congr 1; omega)]
  rw [e]
  exact Rd.take h3 hk
end

theorem pt_info : (Try.prog.info? 50).map (fun i => (i.zero, i.size, i.bytes)) = some (some (.agg #[.int .i64 0, .string ⟨#[]⟩]), 2, 24) := by kernel_rfl
theorem pts_info : (Try.prog.info? 22).map (fun i => (i.zero, i.size, i.bytes)) = some (some (.slice none 0 0), 1, 24) := by kernel_rfl

/-- 'append' at patches. -/
theorem wpList_appP {w : World} {ops : Array Oper} {rest : List Oper} {o : Oper} {a : Act} {Q : Exit → Act → World → Prop} (hgd : o.guard = none) (s x : Operand)
    (ho : o.op = .call { callee := .builtin .append, args := #[s, x], argTypes := #[22, 22] })
    (base : Nat) (v : Value) (L : List PT) (hs : a.eval s = v) (hown : OP w base v L)
    (B : Nat) (A : Option Addr) (c : Nat) (news : List PT) (m : Nat) (hm : m = news.length) (hx : a.eval x = .slice A m c) (hr : Rd w B A 2 news.length (pcs news))
    (h63 : L.length + news.length ≤ 1000000) (hbase : base ≤ w.heap.size)
    (h : ∀ v' w', OP w' base v' (L ++ news) → w.grownBy w' v.ownBlock → (v'.ownBlock = v.ownBlock ∨ v'.ownBlock = some w.heap.size) → wpList Try.prog ops Q rest (a.put o.dst v') w') : wpList Try.prog ops Q (o :: rest) a w := by
  subst hm
  obtain ⟨i0, hi, hz, h1, h2⟩ := info_parts pt_info
  refine wpList_app hgd s x _ ho base 50 i0 _ 2 24 Try.underlying22 hi hz h1 h2 rfl (by omega) v L.length (pcs L) hs hown B A news.length c (pcs news) hx hr (pcs_one news) (by unfold maxLen; omega) (by omega) hbase ?_
  intro v' w' h3 h4 h5
  exact h v' w' (by unfold OP; rw [List.length_append, pcs_append]; exact h3) h4 h5

theorem Rd.litP (w : World) (t : TypeId) (vs : List Value) (size n : Nat) (hn : vs.length = n * size) : Rd (w.alloc (.cells vs.toArray t)) (w.heap.size + 1) (some ⟨w.heap.size, 0, none⟩) size n vs := by
  refine ⟨hn, fun _ => ⟨_, _, rfl, by omega, fun j u hu => ?_⟩⟩
  rw [cell_of_row _ _ (0 + j) vs.toArray t (0, 0) (heap_alloc_new w _)]
  simpa using hu

/-- 'append(out, p)': one patch, which the translation lays in a new block first. -/
theorem wpList_appP1 {w : World} {ops : Array Oper} {rest : List Oper} {o : Oper} {a : Act} {Q : Exit → Act → World → Prop} (hgd : o.guard = none) (s x : Operand)
    (ho : o.op = .call { callee := .builtin .append, args := #[s, x], argTypes := #[22, 22] })
    (base : Nat) (v : Value) (L : List PT) (hs : a.eval s = v) (r : PT) (hx : a.eval x = .slice (some ⟨w.heap.size, 0, none⟩) 1 1) (hown : OP w base v L)
    (h63 : L.length + 1 ≤ 1000000) (hbase : base ≤ w.heap.size)
    (h : ∀ v' w', OP w' base v' (L ++ [r]) → Below base w w' → wpList Try.prog ops Q rest (a.put o.dst v') w') : wpList Try.prog ops Q (o :: rest) a (w.alloc (.cells #[.int .i64 r.pos, .string r.dat] 50)) := by
  refine wpList_appP hgd s x ho base v L hs (hown.alloc _) (w.heap.size + 1) (some ⟨w.heap.size, 0, none⟩) 1 [r] 1 rfl hx (Rd.litP w _ (pcs [r]) 2 1 rfl) h63 (by simp; omega) ?_
  intro v' w' q1 q2 q3
  exact h v' w' q1 (((Below.refl _ _).alloc hbase _).trans ((Below.refl _ _).grown q2 (by simp; omega) (fun k hk => (World.ownsRow.lt hown k hk).1)))

/-! ### rows of rows -/
structure RW where
  v : Value
  L : List PT
def RW.vals (R : List RW) : List Value := R.map RW.v
/-- A row of rows of patches, all of the call's own, none of them the row itself. -/
def OW (w : World) (base : Nat) (v : Value) (R : List RW) : Prop :=
  w.ownsRow base 22 1 v R.length (R.map RW.v) ∧ (∀ r ∈ R, OP w base r.v r.L) ∧ ∀ r ∈ R, ∀ g, r.v.ownBlock = some g → v.ownBlock ≠ some g
theorem OW.nil (w : World) (base : Nat) : OW w base (.slice none 0 0) [] := ⟨World.ownsRow_nil _ _ _ _, fun _ h => by simp at h, fun _ h => by simp at h⟩
theorem OW.turn {w w' : World} {F : Nat → Prop} {base : Nat} {v : Value} {R : List RW} (h : OW w base v R) (t : Turn F w w') (hF : ∀ g, F g → g < base ∨ w.heap.size ≤ g) : OW w' base v R := by
  refine ⟨row_turn h.1 t fun g hg q => ?_, fun r hr => (h.2.1 r hr).turn t fun g hg q => ?_, h.2.2⟩
  · have := World.ownsRow.lt h.1 g hg; have := hF g q; omega
  · have := World.ownsRow.lt (h.2.1 r hr) g hg; have := hF g q; omega
theorem OW.keep {w w' : World} {base : Nat} {v : Value} {R : List RW} (h : OW w base v R) (g : Grow w w') : OW w' base v R := h.turn (F := fun _ => False) (Turn.grow g _) fun _ q => q.elim
theorem OW.low {w : World} {base B : Nat} {v : Value} {R : List RW} (h : OW w base v R) (hB : B ≤ base) : OW w B v R := ⟨World.ownsRow.mono h.1 hB, fun r hr => (h.2.1 r hr).low hB, h.2.2⟩
theorem slice_one (v : Value) (h : ∃ A n c, v = .slice A n c) : v.oneCell' = true := by
  obtain ⟨A, n, c, rfl⟩ := h; rfl
theorem OP.form {w : World} {base : Nat} {v : Value} {L : List PT} (h : OP w base v L) : ∃ A c, v = .slice A L.length c ∧ L.length ≤ c := by
  obtain ⟨A, c, rfl, h1, -, -, -⟩ := own_form h
  exact ⟨A, c, rfl, h1⟩
/-- 'append(out, p)': one row. -/
theorem wpList_appW {w : World} {ops : Array Oper} {rest : List Oper} {o : Oper} {a : Act} {Q : Exit → Act → World → Prop} (hgd : o.guard = none) (s x : Operand)
    (ho : o.op = .call { callee := .builtin .append, args := #[s, x], argTypes := #[41, 41] })
    (base : Nat) (v : Value) (R : List RW) (hs : a.eval s = v) (r : RW) (u : Value) (hu : r.v = u) (hx : a.eval x = .slice (some ⟨w.heap.size, 0, none⟩) 1 1) (hown : OW w base v R)
    (hr : OP w base r.v r.L) (hrv : ∀ g, r.v.ownBlock = some g → v.ownBlock ≠ some g)
    (h63 : R.length + 1 ≤ 1000000) (hbase : base ≤ w.heap.size)
    (h : ∀ v' w', OW w' base v' (R ++ [r]) → Turn (fun k => v.ownBlock = some k) w w' → Below base w w' → wpList Try.prog ops Q rest (a.put o.dst v') w') : wpList Try.prog ops Q (o :: rest) a (w.alloc (.cells #[u] 22)) := by
  subst hu
  obtain ⟨i0, hi, hz, h1, h2⟩ := info_parts pts_info
  obtain ⟨ho1, ho2, ho3⟩ := hown
  have hone : r.v.oneCell' = true := slice_one _ (by obtain ⟨A, c, e, -⟩ := hr.form; exact ⟨_, _, _, e⟩)
  refine wpList_app hgd s x _ ho base 22 i0 _ 1 24 Try.underlying41 hi hz h1 h2 rfl (by omega) v R.length _ hs (World.ownsRow.alloc ho1 _) (w.heap.size + 1) (some ⟨w.heap.size, 0, none⟩) 1 1 [r.v] hx (Rd.litP w _ [r.v] 1 1 rfl) (by intro q hq; simp at hq; subst hq; exact hone) (by unfold maxLen; omega) (by omega) (by simp; omega) ?_
  intro v' w' h3 h4 h5
  have ha := Turn.grow ((Grow.refl w).alloc (.cells #[r.v] 22)) fun k => v.ownBlock = some k
  have ht : Turn (fun k => v.ownBlock = some k) w w' := ha.and (Turn.grown h4 fun j hj => hj)
  refine h v' w' ⟨?_, ?_, ?_⟩ ht (ht.low (fun i hi => (World.ownsRow.lt ho1 i hi).1) hbase)
  · rw [List.length_append, List.map_append]; exact h3
  · intro q hq
    rcases List.mem_append.1 hq with hq | hq
    · exact (ho2 q hq).turn ht fun g hg hv => ho3 q hq g hg hv
    · simp at hq
      subst hq
      exact hr.turn ht fun g hg hv => hrv g hg hv
  · intro q hq g hg hv
    have hlt : g < w.heap.size ∧ v.ownBlock ≠ some g := by
      rcases List.mem_append.1 hq with hq | hq
      · exact ⟨(World.ownsRow.lt (ho2 q hq) g hg).2, ho3 q hq g hg⟩
      · simp at hq
        subst hq
        exact ⟨(World.ownsRow.lt hr g hg).2, hrv g hg⟩
    rcases h5 with h5 | h5
    · exact hlt.2 (h5 ▸ hv)
    · rw [h5] at hv
      injection hv with hv
      simp at hv
      omega
end Go.Proofs.Ytncjfljmnkfghaa

namespace Go.Proofs.Ytncjfljmnkfghaa
open Go.RowKit

theorem strOf_bytes (bs : List UInt8) : strOfNums (bs.map fun u => (u.toNat : Int)) = ⟨bs.toArray⟩ := by
  unfold strOfNums
  congr 1
  simp [Function.comp_def]

/-- string(b). -/
theorem conv_s {A : Option Addr} {n c : Nat} {bs : List UInt8} {w : World} (h : Sl w A n bs) : (convert 24 9 (.slice A n c)).run Try.prog w = .ok (.string ⟨bs.toArray⟩) w := by
  rcases Nat.eq_zero_or_pos n with hn | hn
  · subst hn
    obtain rfl : bs = [] := List.eq_nil_of_length_eq_zero h.1
    rcases A with _ | a
    · exact run_convert_bytes_nil w 24 5 Try.underlying24 Try.underlying5 0 c _ Try.underlying9
    · rw [run_convert_bytes_string w 24 9 5 _ 0 c Try.underlying24 Try.underlying5 Try.underlying9]
      simp [Conv.bytesToString, loadCells]
      rfl
  · obtain ⟨b, o, rfl, hb, hc⟩ := h.all hn
    have := run_convert_bytes_arg (P := Try.prog) w 24 5 Try.underlying24 Try.underlying5 b o n c (bs.map fun u => (u.toNat : Int)) (by simp [h.1])
      (fun i hi => by rw [hc i hi, List.getD_eq_getElem?_getD, List.getElem?_map, List.getElem?_eq_getElem (by rw [h.1]; exact hi)]; rfl) _ Try.underlying9
    rw [strOf_bytes] at this
    exact this

end Go.Proofs.Ytncjfljmnkfghaa

namespace Go.Proofs.Ytncjfljmnkfghaa
open Go.RowKit

/-- What Decode tells. -/
def DecRes (w w' : World) (b : List UInt8) (e : Ending) : Prop :=
  ∃ v, e = .returned (.tuple #[v, .int .i64 (dpU b : Nat), .int .i64 (dpE b)]) ∧ OP w' w.heap.size v (dpL b) ∧ Grow w w'
theorem DecRes.bad {w w' : World} {b : List UInt8} {x : Int} (h : dpE b = x) (h0 : x ≠ 0) (g : Grow w w') : DecRes w w' b (.returned (.tuple #[.slice none 0 0, .int .i64 0, .int .i64 x])) := by
  subst h
  refine ⟨.slice none 0 0, ?_, ?_, g⟩
  · rw [dpU, if_neg h0]; rfl
  · rw [dpL, if_neg h0]; exact OP.nil _ _
/-- The rest of the patches, told from one on. -/
def DecLink (b : List UInt8) (N i a : Nat) (L : List PT) : Prop :=
  rdE b (N - i) a = rdE b N 2 ∧ rdZ b (N - i) a = rdZ b N 2 ∧ L ++ rdL b (N - i) a = rdL b N 2
theorem DecLink.start (b : List UInt8) (N : Nat) : DecLink b N 0 2 [] := ⟨rfl, rfl, rfl⟩
theorem DecLink.step {b : List UInt8} {N i a : Nat} {L : List PT} (h : DecLink b N i a L) (hi : i < N) (h1 : a + 6 + ptK b a ≤ b.length) (h2 : ptK b a ≤ 256) : DecLink b N (i + 1) (a + 6 + ptK b a) (L ++ [ptAt b a]) := by
  obtain ⟨q1, q2, q3⟩ := h
  have hs : N - i = (N - (i + 1)) + 1 := by omega
  rw [hs] at q1 q2 q3
  refine ⟨?_, q2, ?_⟩
  · rw [← q1, rdE_step h1 h2]
  · rw [← q3, rdL, List.append_assoc]; rfl
theorem DecLink.short {b : List UInt8} {N i a : Nat} {L : List PT} (h : DecLink b N i a L) (hi : i < N) (h1 : b.length < a + 6) : rdE b N 2 = 3 := by
  rw [← h.1, show N - i = (N - (i + 1)) + 1 by omega, rdE, if_pos h1]
theorem DecLink.odd {b : List UInt8} {N i a : Nat} {L : List PT} (h : DecLink b N i a L) (hi : i < N) (h1 : a + 6 ≤ b.length) (h2 : 256 < ptK b a) : rdE b N 2 = 2 := by
  rw [← h.1, show N - i = (N - (i + 1)) + 1 by omega, rdE, if_neg (by omega), if_pos h2]
theorem DecLink.less {b : List UInt8} {N i a : Nat} {L : List PT} (h : DecLink b N i a L) (hi : i < N) (h1 : a + 6 ≤ b.length) (h2 : ptK b a ≤ 256) (h3 : b.length < a + 6 + ptK b a) : rdE b N 2 = 3 := by
  rw [← h.1, show N - i = (N - (i + 1)) + 1 by omega, rdE, if_neg (by omega), if_neg (by omega), if_pos h3]
theorem DecLink.done {b : List UInt8} {N a : Nat} {L : List PT} (h : DecLink b N N a L) : rdE b N 2 = 0 ∧ rdZ b N 2 = a ∧ L = rdL b N 2 := by
  obtain ⟨q1, q2, q3⟩ := h
  rw [Nat.sub_self] at q1 q2 q3
  refine ⟨q1.symm, q2.symm, ?_⟩
  rw [← q3, rdL]; simp
theorem dpE_rd {b : List UInt8} {x : Int} (h2 : 2 ≤ b.length) (hn : dpN b ≤ 64) (h : rdE b (dpN b) 2 = x) (h0 : x ≠ 0) : dpE b = x := by
  rw [dpE, if_neg (by omega), if_neg (by omega), if_pos (by rw [h]; exact h0), h]
theorem getK_out {b : List UInt8} {a : Nat} {wd : Nat} (h : b.length < a + wd) : getK b (a : Int) (wd : Int) = false := by
  refine (get_none ?_).2
  rintro ⟨-, -, h3⟩
  omega
theorem dpN_get (b : List UInt8) : getN b 0 2 = (dpN b : Int) := by have := (get_any b 0 2).1; unfold dpN; omega
theorem ptK_get (b : List UInt8) (a : Nat) : getN b ((a : Int) + 4) 2 = (ptK b a : Int) := by
  have := (get_any b ((a + 4 : Nat) : Int) 2).1
  unfold ptK
  rw [show ((a + 4 : Nat) : Int) = (a : Int) + 4 by simp] at this ⊢
  omega
theorem getK4 {b : List UInt8} {a : Nat} (h : a + 4 ≤ b.length) : getK b (a : Int) 4 = true := getK_small (b := b) (a := a) (wd := 4) (.inr (.inr rfl)) h
theorem getK2 {b : List UInt8} {a : Nat} (h : a + 6 ≤ b.length) : getK b ((a : Int) + 4) 2 = true := by
  have := getK_small (b := b) (a := a + 4) (wd := 2) (.inr (.inl rfl)) (by omega)
  rwa [show ((a + 4 : Nat) : Int) = (a : Int) + 4 by simp] at this
theorem getK2_out {b : List UInt8} {a : Nat} (h : b.length < a + 6) : getK b ((a : Int) + 4) 2 = false := by
  have := getK_out (b := b) (a := a + 4) (wd := 2) (by omega)
  rwa [show ((a + 4 : Nat) : Int) = (a : Int) + 4 by simp] at this

theorem wrap_smallR {k : Nat} (h : k < 64) : wrap64 ((k : Int) + 1) = (k : Int) + 1 := IntWalk.wrap64_in _ (by omega)
theorem measR {M k : Nat} (h : k < M) : M - (intOf (.int .i64 ((k : Int) + 1))).toNat < M - (intOf (.int .i64 (k : Int))).toNat := by simp [intOf]; omega
theorem measRW {M k : Nat} (h : k < M) (e : wrap64 ((k : Int) + 1) = (k : Int) + 1) : M - (intOf (.int .i64 (wrap64 ((k : Int) + 1)))).toNat < M - (intOf (.int .i64 (k : Int))).toNat := by rw [e]; exact measR h

def FillJ (a f : Nat) (t : Value) : Prop := ∃ j : Nat, j ≤ f ∧ t = .int .i64 ((a + j : Nat) : Int)
def ZerInv (b : List UInt8) (a m : Nat) (t : Value) : Prop := ∃ k : Nat, t = .int .i64 (k : Int) ∧ a ≤ k ∧ k ≤ m ∧ ∀ i, a ≤ i → i < k → b.getD i 0 = 0

/-- What holds at each round over the patches. -/
def DecInv (w wr : World) (b : List UInt8) (N : Nat) (ta tl ti : Value) : Prop := ∃ (i a : Nat) (L : List PT), ti = .int .i64 (i : Int) ∧ ta = .int .i64 (a : Int) ∧ i ≤ N ∧ a ≤ b.length ∧ L.length = i ∧ DecLink b N i a L ∧ OP wr w.heap.size tl L ∧ Grow w wr

theorem rl_decode_early {w : World} {A : Option Addr} {n c : Nat} {b : List UInt8} (hs : Sl w A n b) (h : n < 2 ∨ 64 < dpN b) :
    Calls Try.prog 18 #[.slice A n c] w fun e w' => DecRes w w' b e := by
  have HL := Lib.hid hs.1
  have HN := Lib.hid (dpN_get b)
  have hb := dpN_lt b
  by_cases h2 : n < 2
  · have HE := Lib.hid (show dpE b = 3 by rw [dpE, if_pos (by rw [HL.out]; exact h2)])
    have HK := Lib.hid (show getK b 0 2 = false from getK_out (b := b) (a := 0) (wd := 2) (by rw [HL.out]; omega))
    go_enter Try.func18, Try.ntmps18
    go_wp2_with fail
    refine (rget_s (at_ := 0) (x := 2) hs (by decide) (by decide)).mono ?_
    rintro e w1 ⟨rfl, rfl⟩
    rw [HK.out]
    go_wp2_with fail
    go_ret3
    exact .bad HE.out (by decide) (Grow.refl _)
  · have h64 : 64 < dpN b := by rcases h with h | h; exact absurd h h2; exact h
    have HE := Lib.hid (show dpE b = 2 by rw [dpE, if_neg (by rw [HL.out]; omega), if_pos h64])
    have HK := Lib.hid (show getK b 0 2 = true from getK_small (b := b) (a := 0) (wd := 2) (.inr (.inl rfl)) (by rw [HL.out]; omega))
    obtain ⟨N, hN⟩ : ∃ N, N = dpN b := ⟨_, rfl⟩
    rw [← hN] at h64 HN hb
    have z1 : decide ((64 : Int) < (N : Int)) = true := decide_eq_true (by omega)
    clear h hN
    go_enter Try.func18, Try.ntmps18
    go_wp2_with fail
    refine (rget_s (at_ := 0) (x := 2) hs (by decide) (by decide)).mono ?_
    rintro e w1 ⟨rfl, rfl⟩
    rw [HK.out, HN.out]
    go_wp2_with fail
    go_ret3
    exact .bad HE.out (by decide) (Grow.refl _)

set_option maxHeartbeats 4000000 in
set_option maxRecDepth 8000 in
theorem rl_decode_go {w : World} {A : Option Addr} {n c : Nat} {b : List UInt8} (hs : Sl w A n b) (hc : n ≤ c) (h2 : 2 ≤ n) (h64 : dpN b ≤ 64) :
    Calls Try.prog 18 #[.slice A n c] w fun e w' => DecRes w w' b e := by
  have HL := Lib.hid hs.1
  have HN := Lib.hid (dpN_get b)
  have HK := Lib.hid (show getK b 0 2 = true from getK_small (b := b) (a := 0) (wd := 2) (.inr (.inl rfl)) (by rw [HL.out]; omega))
  have hnb : n ≤ 1073741000 := hs.2.1
  obtain ⟨N, hN⟩ : ∃ N, N = dpN b := ⟨_, rfl⟩
  rw [← hN] at h64 HN
  have HNN := Lib.hid hN
  have HS := Lib.hid hs
  have HRD := Lib.hid (show ∀ x : Int, rdE b N 2 = x → x ≠ 0 → dpE b = x from fun x hx h0 => dpE_rd (by rw [HL.out]; exact h2) (by rw [← hN]; exact h64) (by rw [← hN]; exact hx) h0)
  have z1 : decide ((64 : Int) < (N : Int)) = false := decide_eq_false (by omega)
  obtain ⟨g, o, rfl, hg0, hcell⟩ := hs.all (by omega)
  have HC := Lib.hid (show ∀ k, k < n → w.cell? ⟨g, o + k, none⟩ = some (.int .u8 ((b.getD k 0).toNat : Int)) from fun k hk => by
    rw [hcell k hk, List.getD_eq_getElem?_getD, List.getElem?_eq_getElem (by rw [HL.out]; exact hk)]; rfl)
  clear hN hcell hs
  go_enter Try.func18, Try.ntmps18
  go_wp2_with fail
  refine (rget_s (at_ := 0) (x := 2) HS.out (by decide) (by decide)).mono ?_
  rintro e w1 ⟨rfl, rfl⟩
  rw [HK.out, HN.out]
  go_wp2_with fail
  go_loopw [7, 8, 9] (fun ta tl ti wr => DecInv w wr b N ta tl ti) (fun _ _ ti _ => N - (intOf ti).toNat)
  case atStart => exact ⟨0, 2, [], rfl, rfl, Nat.zero_le _, by rw [HL.out]; exact h2, rfl, DecLink.start _ _, OP.nil _ _, Grow.refl _⟩
  case round =>
    obtain ⟨i, a, L, rfl, rfl, hi, ha, hLi, hlk, hop, hg⟩ := hrel
    rw [HL.out] at ha
    have HLK := Lib.hid hlk
    have HG := Lib.hid hg
    have HOP := Lib.hid hop
    have HLI := Lib.hid hLi
    clear hlk hg hop hLi
    by_cases hlt : i < N
    · go_wp2_with fail
      refine (rget_s (at_ := (a : Int)) (x := 4) (HS.out.keep HG.out) (by omega) (by omega)).mono ?_
      rintro e w' ⟨rfl, rfl⟩
      obtain ⟨x0, X0⟩ : ∃ x, Hid (x = getN b (a : Int) 4) := ⟨_, Lib.hid rfl⟩
      obtain ⟨s0, S0⟩ : ∃ x, Hid (x = getK b (a : Int) 4) := ⟨_, Lib.hid rfl⟩
      rw [← X0.out, ← S0.out]
      go_wp2_with fail
      refine (rget_s (at_ := (a : Int) + 4) (x := 2) (HS.out.keep HG.out) (by omega) (by omega)).mono ?_
      rintro e w' ⟨rfl, rfl⟩
      obtain ⟨s1, S1⟩ : ∃ x, Hid (x = getK b ((a : Int) + 4) 2) := ⟨_, Lib.hid rfl⟩
      obtain ⟨k, K0⟩ : ∃ k, Hid (k = ptK b a) := ⟨_, Lib.hid rfl⟩
      rw [ptK_get, ← K0.out, ← S1.out]
      by_cases h6 : n < a + 6
      · have HE := Lib.hid (HRD.out 3 (HLK.out.short hlt (by rw [HL.out]; exact h6)) (by decide))
        have hs1 : s1 = false := by rw [S1.out]; exact getK2_out (by rw [HL.out]; exact h6)
        subst hs1
        cases s0
        · go_wp2_with fail
          go_ret3
          exact .bad HE.out (by decide) HG.out
        · go_wp2_with fail
          go_ret3
          exact .bad HE.out (by decide) HG.out
      · have hs1 : s1 = true := by rw [S1.out]; exact getK2 (by rw [HL.out]; omega)
        have hs0 : s0 = true := by rw [S0.out]; exact getK4 (by rw [HL.out]; omega)
        subst hs1 hs0
        obtain ⟨a6, e6⟩ : ∃ a6 : Nat, (a : Int) + 6 = (a6 : Int) := ⟨a + 6, by simp⟩
        have ha6 : a6 = a + 6 := by omega
        have hkl := ptK_lt b a
        rw [← K0.out] at hkl
        by_cases hk : 256 < k
        · have HE := Lib.hid (HRD.out 2 (HLK.out.odd hlt (by rw [HL.out]; omega) (by rw [← K0.out]; exact hk)) (by decide))
          have y1 : decide (256 < k) = true := decide_eq_true hk
          have y2 : decide ((256 : Int) < (k : Int)) = true := decide_eq_true (by omega)
          clear e6 ha6
          go_wp2_with fail
          go_ret3
          exact .bad HE.out (by decide) HG.out
        · have y1 : decide (256 < k) = false := decide_eq_false hk
          have y2 : decide ((256 : Int) < (k : Int)) = false := decide_eq_false (by omega)
          by_cases h7 : n < a6 + k
          · have HE := Lib.hid (HRD.out 3 (HLK.out.less hlt (by rw [HL.out]; omega) (by rw [← K0.out]; omega) (by rw [← K0.out, HL.out]; omega)) (by decide))
            have y3 : decide ((n : Int) - (a6 : Int) < (k : Int)) = true := decide_eq_true (by omega)
            clear ha6
            go_wp2_with fail
            go_ret3
            exact .bad HE.out (by decide) HG.out
          · have y3 : decide ((n : Int) - (a6 : Int) < (k : Int)) = false := decide_eq_false (by omega)
            obtain ⟨z, ez⟩ : ∃ z : Nat, (a6 : Int) + (k : Int) = (z : Int) := ⟨a6 + k, by simp⟩
            have hz : z = a6 + k := by omega
            have i1 : a6 ≤ z := by omega
            have i2 : z ≤ c := by omega
            have i3 : z ≤ n := by omega
            have i4 : a6 ≤ c := by omega
            have zk : z - a6 = k := by omega
            have HST := Lib.hid (HLK.out.step hlt (by rw [← K0.out, HL.out]; omega) (by rw [← K0.out]; omega))
            obtain ⟨r, hr⟩ : ∃ r, r = ptAt b a := ⟨_, rfl⟩
            have hr0 : r.pos = x0 := by rw [hr, X0.out]; rfl
            have HX := Lib.hid (show a + 6 + ptK b a = z by rw [← K0.out]; omega)
            rw [HX.out, ← hr] at HST
            have hsd := ((HS.out.keep HG.out).drop (k := a6) (c := c) (by omega) hc).take (k := k) (by omega)
            have hsv : ((b.drop a6).take k).toArray = r.dat.data := by rw [hr, ptAt, K0.out, ha6]
            have HSZ := Lib.hid HG.out.size
            have cv : ∀ c', (convert 24 9 (.slice (if c = a6 then some ⟨g, o, none⟩ else (some (⟨g, o, none⟩ : Addr)).map (·.add a6)) k c')).run Try.prog wr = .ok (.string r.dat) wr := fun c' => by
              have := conv_s (c := c') hsd
              rwa [hsv] at this
            have HLL := Lib.hid (show L.length + 1 ≤ 1000000 by rw [HLI.out]; omega)
            subst hr0
            clear hr hsv hsd ha6 hz
            by_cases hca : c = a6
            · simp only [if_pos hca] at cv
              go_wp2_with (at_builtin; refine wpList_appP1 rfl (.tmp 61) (.tmp 71) rfl w.heap.size _ L rfl r (by first | rfl | simp) HOP.out HLL.out HSZ.out ?_; intro v2 w2 q1 q2)
              have X : DecInv w w2 b N (.int .i64 (z : Int)) v2 (.int .i64 ((i : Int) + 1)) := ⟨i + 1, z, L ++ [r], by simp, rfl, hlt, by rw [HL.out]; exact i3, by simp [HLI.out], HST.out, q1, HG.out.low q2⟩
              have e5 := wrap_smallR (show i < 64 by omega)
              clear q1 q2 cv ez e6
              try rw [← hca]
              clear hca
              go_roundw
              case rel => (try rw [e5]); first | exact X | ((repeat apply Exists.intro); exact X) | ((repeat apply Exists.intro); refine ⟨X, ?_⟩; rfl)
              case measure => first | exact measR hlt | exact measRW hlt e5
            · simp only [if_neg hca, Option.map_some, Addr.add_lit] at cv
              go_wp2_with (at_builtin; refine wpList_appP1 rfl (.tmp 61) (.tmp 71) rfl w.heap.size _ L rfl r (by first | rfl | simp) HOP.out HLL.out HSZ.out ?_; intro v2 w2 q1 q2)
              have X : DecInv w w2 b N (.int .i64 (z : Int)) v2 (.int .i64 ((i : Int) + 1)) := ⟨i + 1, z, L ++ [r], by simp, rfl, hlt, by rw [HL.out]; exact i3, by simp [HLI.out], HST.out, q1, HG.out.low q2⟩
              have e5 := wrap_smallR (show i < 64 by omega)
              clear q1 q2 cv ez e6
              try rw [← hca]
              clear hca
              go_roundw
              case rel => (try rw [e5]); first | exact X | ((repeat apply Exists.intro); exact X) | ((repeat apply Exists.intro); refine ⟨X, ?_⟩; rfl)
              case measure => first | exact measR hlt | exact measRW hlt e5
    · obtain rfl : i = N := by omega
      obtain ⟨d1, d2, d3⟩ := HLK.out.done
      have HRE := Lib.hid d1
      have HZ := Lib.hid (show dpZ b = a by rw [dpZ, ← HNN.out]; exact d2)
      have HLR := Lib.hid (show L = rdL b (dpN b) 2 by rw [← HNN.out]; exact d3)
      have HE0 := Lib.hid (show dpE b = if b.length < a + 4 then 3 else if getN b (a : Int) 4 ≠ (crcN (b.take a) : Nat) then 4 else if b.length < dpF b then 3 else if zerosB b (a + 4) (dpF b) = true then 0 else 2 by
        rw [dpE, if_neg (by rw [HL.out]; omega), if_neg (by rw [← HNN.out]; omega), if_neg (by rw [← HNN.out, HRE.out]; simp), HZ.out])
      have HFF := Lib.hid (show dpF b = a + 4 + fillN (a + 4) by rw [dpF, HZ.out])
      clear d1 d2 d3
      go_wp2_with fail
      refine (rget_s (at_ := (a : Int)) (x := 4) (HS.out.keep HG.out) (by omega) (by omega)).mono ?_
      rintro e w' ⟨rfl, rfl⟩
      obtain ⟨x0, X0⟩ : ∃ x, Hid (x = getN b (a : Int) 4) := ⟨_, Lib.hid rfl⟩
      rw [← X0.out]
      by_cases h4 : n < a + 4
      · have HKK := Lib.hid (show getK b (a : Int) 4 = false from getK_out (wd := 4) (by rw [HL.out]; exact h4))
        have HE := Lib.hid (show dpE b = 3 by rw [HE0.out, if_pos (by rw [HL.out]; exact h4)])
        rw [HKK.out]
        go_wp2_with fail
        go_ret3
        exact .bad HE.out (by decide) HG.out
      · have HKK := Lib.hid (show getK b (a : Int) 4 = true from getK4 (by rw [HL.out]; omega))
        rw [HKK.out]
        have HE1 := Lib.hid (show dpE b = if getN b (a : Int) 4 ≠ (crcN (b.take a) : Nat) then 4 else if b.length < dpF b then 3 else if zerosB b (a + 4) (dpF b) = true then 0 else 2 by rw [HE0.out, if_neg (by rw [HL.out]; exact h4)])
        have i1 : a ≤ c := by omega
        clear HE0 HKK
        go_wp2_with fail
        refine (rsum_s ((HS.out.keep HG.out).take (k := a) (by omega))).mono ?_
        rintro e w3 ⟨q, rfl, hq, hq1, rfl⟩
        by_cases hsum : x0 = (q : Int)
        · have hne : (x0 != (q : Int)) = false := by rw [bne_eq_false_iff_eq]; exact hsum
          have HE2 := Lib.hid (show dpE b = if b.length < dpF b then 3 else if zerosB b (a + 4) (dpF b) = true then 0 else 2 by rw [HE1.out, if_neg (by rw [← X0.out, hsum, hq.out]; simp)])
          have HNE := Lib.hid hne
          clear hsum hq HE1
          obtain ⟨f, hf⟩ : ∃ f, f = fillN (a + 4) := ⟨_, rfl⟩
          have hf8 : f < 8 ∧ (a + 4 + f) % 8 = 0 ∧ ∀ j, j < f → (a + 4 + j) % 8 ≠ 0 := by
            rw [hf, fillN]
            refine ⟨by omega, by omega, ?_⟩
            intro j hj
            omega
          obtain ⟨a4, e4⟩ : ∃ a4 : Nat, (a : Int) + 4 = (a4 : Int) := ⟨a + 4, by simp⟩
          have ha4 : a + 4 = a4 := by omega
          rw [ha4] at hf8 HE2 HFF hf
          rw [← hf] at HFF
          have HF8 := Lib.hid hf8
          have HA4 := Lib.hid ha4
          have ha4n : a4 ≤ n := by omega
          clear hf hf8 ha4 h4
          go_wp2_with fail
          clear e4
          go_loopw [16] (fun t wr' => FillJ a4 f t ∧ wr' = wr) (fun t _ => a4 + f - (intOf t).toNat)
          case atStart => exact ⟨⟨0, Nat.zero_le _, rfl⟩, rfl⟩
          case round =>
            obtain ⟨⟨j, hj, rfl⟩, rfl⟩ := hrel
            obtain ⟨M, hM⟩ : ∃ M, M = a4 + j := ⟨_, rfl⟩
            rw [← hM]
            have hMb : M ≤ 1073741100 := by have := HF8.out.1; omega
            by_cases hjf : j < f
            · have hne := HF8.out.2.2 j hjf
              rw [← hM] at hne
              have hne1 : ((M : Int) % 8 != 0) = true := by simp; omega
              have X : FillJ a4 f (.int .i64 ((M : Int) + 1)) ∧ wr = wr := ⟨⟨j + 1, hjf, by rw [hM]; simp [Int.add_assoc]⟩, rfl⟩
              have HX := Lib.hid X
              have hms : a4 + f - (intOf (.int .i64 ((M : Int) + 1))).toNat < a4 + f - (intOf (.int .i64 (M : Int))).toNat := by simp [intOf]; omega
              have HMS := Lib.hid hms
              clear hne X hms hM
              go_wp2_with fail
              go_roundw
              case rel => first | exact HX.out | exact ⟨HX.out.1, trivial⟩ | exact HX.out.1
              case measure => exact HMS.out
            · obtain rfl : j = f := by omega
              have hne := HF8.out.2.1
              rw [← hM] at hne
              have hne1 : ((M : Int) % 8 != 0) = false := by simp; omega
              rw [← hM] at HFF
              have hMa : a4 ≤ M := by omega
              clear hne hM hjf hj
              by_cases hnM : n < M
              · have HE := Lib.hid (show dpE b = 3 by rw [HE2.out, if_pos (by rw [HL.out, HFF.out]; exact hnM)])
                have y1 : decide (n < M) = true := decide_eq_true hnM
                have y2 : decide ((n : Int) < (M : Int)) = true := decide_eq_true (by omega)
                go_wp2_with fail
                go_ret3
                exact .bad HE.out (by decide) HG.out
              · have HE3 := Lib.hid (show dpE b = if zerosB b a4 M = true then 0 else 2 by rw [HE2.out, if_neg (by rw [HL.out, HFF.out]; exact hnM), HFF.out])
                have y1 : decide (n < M) = false := decide_eq_false hnM
                have y2 : decide ((n : Int) < (M : Int)) = false := decide_eq_false (by omega)
                clear HE2
                go_wp2_with fail
                go_loopw [17] (fun t wr' => ZerInv b a4 M t ∧ wr' = wr) (fun t _ => M - (intOf t).toNat)
                case atStart => exact ⟨⟨a4, rfl, Nat.le_refl _, hMa, fun i h1 h2 => by omega⟩, rfl⟩
                case round =>
                  obtain ⟨⟨k, rfl, hk1, hk2, hz⟩, rfl⟩ := hrel
                  have HZZ := Lib.hid hz
                  clear hz
                  by_cases hkM : k < M
                  · have hc := HG.out.cell (HC.out k (by omega))
                    obtain ⟨u, hu⟩ : ∃ u : Int, u = ((b.getD k 0).toNat : Int) := ⟨_, rfl⟩
                    rw [← hu] at hc
                    have HU := Lib.hid hu
                    have z5 : decide ((k : Int) < (M : Int)) = true := decide_eq_true (by omega)
                    have hkn : k < n := by omega
                    clear hu
                    by_cases h0 : u = 0
                    · have h0' : (u != 0) = false := by rw [bne_eq_false_iff_eq]; exact h0
                      have X : ZerInv b a4 M (.int .i64 ((k : Int) + 1)) := ⟨k + 1, by simp, by omega, hkM, fun i h1 h2 => by
                        by_cases e : i = k
                        · subst e
                          apply UInt8.toNat_inj.1
                          have := HU.out
                          rw [h0] at this
                          simp at this ⊢
                          omega
                        · exact HZZ.out i h1 (by omega)⟩
                      have HX := Lib.hid X
                      have HMS := Lib.hid (show M - (intOf (.int .i64 ((k : Int) + 1))).toNat < M - (intOf (.int .i64 (k : Int))).toNat from measR hkM)
                      have HU0 := Lib.hid h0
                      clear X h0
                      go_wp2_with fail
                      go_roundw
                      case rel => first | exact ⟨HX.out, rfl⟩ | exact ⟨HX.out, trivial⟩ | exact HX.out
                      case measure => exact HMS.out
                    · have h0' : (u != 0) = true := by rw [bne_iff_ne]; exact h0
                      have HE := Lib.hid (show dpE b = 2 by
                        rw [HE3.out, if_neg]
                        intro q
                        rw [zeros_iff (by rw [HL.out]; omega)] at q
                        have := q k hk1 hkM
                        apply h0
                        rw [HU.out, List.getD_eq_getElem?_getD, List.getElem?_eq_getElem (by rw [HL.out]; exact hkn)]
                        simp [this])
                      clear h0
                      go_wp2_with fail
                      go_ret3
                      exact .bad HE.out (by decide) HG.out
                  · obtain rfl : k = M := by omega
                    have HE := Lib.hid (show dpE b = 0 by
                      rw [HE3.out, if_pos]
                      rw [zeros_iff (by rw [HL.out]; omega)]
                      intro i h1 h2
                      have := HZZ.out i h1 h2
                      rw [List.getD_eq_getElem?_getD, List.getElem?_eq_getElem (by rw [HL.out]; omega)] at this
                      simpa using this)
                    have z5 : decide ((k : Int) < (k : Int)) = false := decide_eq_false (by omega)
                    go_wp2_with fail
                    go_ret3
                    refine ⟨_, ?_, (by rw [dpL, if_pos HE.out, ← HLR.out]; exact HOP.out), HG.out⟩
                    rw [HE.out, dpU, if_pos HE.out, HFF.out]; rfl
        · have hne : (x0 != (q : Int)) = true := by rw [bne_iff_ne]; exact hsum
          have HE := Lib.hid (show dpE b = 4 by rw [HE1.out, if_pos (by rw [← X0.out, ← hq.out]; exact hsum)])
          clear hsum
          go_wp2_with fail
          go_ret3
          exact .bad HE.out (by decide) HG.out

theorem rl_decode {w : World} {A : Option Addr} {n c : Nat} {b : List UInt8} (hs : Sl w A n b) (hc : n ≤ c) :
    Calls Try.prog 18 #[.slice A n c] w fun e w' => DecRes w w' b e := by
  by_cases h : n < 2 ∨ 64 < dpN b
  · exact rl_decode_early hs h
  · exact rl_decode_go hs hc (by omega) (by omega)
end Go.Proofs.Ytncjfljmnkfghaa

namespace Go.Proofs.Ytncjfljmnkfghaa
open Go.RowKit

/-- num.may, num.Up, num.Down. -/
theorem num_may (n tz : Int) (w : World) : Calls Try.prog 78 #[.int .i64 n, .int .i64 tz] w fun e w' => e = .returned (.bool (mayB n tz)) ∧ w = w' := by
  go_enter Try.func78, Try.ntmps78
  go_wp2
  all_goals (go_ret; refine ⟨ret_bool ?_, rfl⟩)
  all_goals (rw [Bool.eq_iff_iff]; simp [mayB])
  all_goals omega

theorem num_up (n tz : Int) (w : World) : Calls Try.prog 43 #[.int .i64 n, .int .i64 tz] w fun e w' => e = .returned (.int .i64 (upN n tz)) ∧ w = w' := by
  by_cases hm : mayB n tz = true
  · obtain ⟨h1, h2, h3, h4⟩ := may_iff.1 hm
    have hu := up_bounds (n := n) h1
    have e : wrap64 ((n + tz - 1) / tz * tz) = upN n tz := by
      rw [IntWalk.wrap64_in _ ⟨by omega, by omega⟩]; simp [upN, hm]
    have HE := Lib.hid e
    clear e hu
    go_enter Try.func43, Try.ntmps43
    go_wp2_with (go_at_call 78; refine (num_may _ _ _).mono ?_; rintro e w' ⟨rfl, rfl⟩)
    go_ret
    exact ⟨ret_int HE.out, rfl⟩
  · have hm : mayB n tz = false := by simpa using hm
    go_enter Try.func43, Try.ntmps43
    go_wp2_with (go_at_call 78; refine (num_may _ _ _).mono ?_; rintro e w' ⟨rfl, rfl⟩)
    go_ret
    exact ⟨ret_int (by simp [upN, hm]), rfl⟩
end Go.Proofs.Ytncjfljmnkfghaa
