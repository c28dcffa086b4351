/- commonsref02.Sum, and a constant text's block. Steps over slices of bytes: what is handed out and what is read, in words that last from call to call. Rows of patches, rows of such rows: what is appended and what is read. num.may and num.Up. No statement of the seat is proved here. -/
import Derived.Test.YtlinlmimakealaaZ10
import Derived.Test.YtlinlmimakealaaZ03
import Derived.Test.YtlinlmimakealaaZ09
import Derived.Test.YtlinlmimakealaaZ02
import Derived.Deep.Onto
namespace Go.Proofs.Ytlinlmimakealaa
open Go.RowKit
theorem ref2_sum (A : Option Addr) (bs : List UInt8) (n c : Nat) (hn : n = bs.length) (B : Nat) (w : World) (hb : RB w B A bs) (hl : bs.length ≤ 1073741824) :
    Calls Try.prog 84 #[.slice A n c] w fun e w' => e = .returned (.int .i64 (crcN bs : Nat)) ∧ w = w' := by
  subst hn
  obtain ⟨r0, hr0⟩ : ∃ r0 : Nat, r0 = 4294967295 := ⟨_, rfl⟩
  have hr0l : r0 < 2 ^ 32 := by omega
  have hr0i : (4294967295 : Int) = (r0 : Int) := by omega
  have hfin : (r0 : Int) - ((crcMore r0 bs : Nat) : Int) = ((crcN bs : Nat) : Int) := by
    have := crcMore_lt hr0l bs
    unfold crcN
    rw [← hr0]
    omega
  have hmr := crcMore_lt hr0l bs
  have HF := Lib.hid hfin
  have HR := Lib.hid hr0i
  clear hfin hr0 hr0i
  go_enter Try.func84, Try.ntmps84
  go_wp2_with fail
  rw [HR.out]
  refine (ref2_more r0 hr0l A bs bs.length c rfl B w hb hl).mono ?_
  rintro e w1 ⟨rfl, rfl⟩
  obtain ⟨q, hq⟩ : ∃ q, q = crcMore r0 bs := ⟨_, rfl⟩
  rw [← hq] at hmr HF ⊢
  clear hq
  go_wp2_with fail
  go_ret
  refine ⟨ret_int ?_, rfl⟩
  rw [← HF.out, ← HR.out]

end Go.Proofs.Ytlinlmimakealaa

namespace Go.Proofs.Ytlinlmimakealaa
open Go.RowKit

/-- num.Put where the number fits. -/
theorem put_s {A : Option Addr} {n c : Nat} {bs : List UInt8} (m : Nat) {k x : Int} {w : World} (hs : Sl w A n bs) (hf : fitsB k x = true) (hk : k ≤ 9223372036854775807) (hm : n + x.toNat = m) (hl : m ≤ 1073741000) :
    Calls Try.prog 32 #[.slice A n c, .int .i64 k, .int .i64 x] w fun e w' => ∃ A' c', e = .returned (.slice A' m c') ∧ Own w' w.heap.size A' m c' (bs ++ leB k.toNat x.toNat) ∧ Grow w w' := by
  obtain ⟨rfl, hn, hr⟩ := hs
  have h0 := fits_nat hf
  refine (num_put A bs c k x (by omega) hk w hr (by omega)).mono ?_
  rintro e w' ⟨v, rfl, hown, hb⟩
  rw [putB, if_pos hf] at hown
  obtain ⟨A', c', rfl, h⟩ := Own.ofOB hown m (by rw [List.length_append, leB_length]; exact hm) hl
  exact ⟨A', c', rfl, h, hb⟩

/-- num.Get. -/
theorem get_s {A : Option Addr} {n c : Nat} {bs : List UInt8} {at_ x : Int} {w : World} (hs : Sl w A n bs) (h0 : -9223372036854775808 ≤ at_) (h1 : at_ ≤ 9223372036854775807) :
    Calls Try.prog 74 #[.slice A n c, .int .i64 at_, .int .i64 x] w fun e w' => e = .returned (.tuple #[.int .i64 (getN bs at_ x), .bool (getK bs at_ x)]) ∧ w = w' := by
  obtain ⟨rfl, hn, hr⟩ := hs
  exact num_get A bs c at_ x h0 h1 _ w hr (by omega)

/-- crc.Sum. -/
theorem sum_s {A : Option Addr} {n c : Nat} {bs : List UInt8} {w : World} (hs : Sl w A n bs) :
    Calls Try.prog 34 #[.slice A n c] w fun e w' => ∃ q : Nat, e = .returned (.int .u32 (q : Int)) ∧ Hid (q = crcN bs) ∧ q < 4294967296 ∧ Grow w w' := by
  obtain ⟨hn, hl, hr⟩ := hs
  refine (crc_sum A bs n c hn.symm w hr (by omega)).mono ?_
  rintro e w' ⟨rfl, hb⟩
  exact ⟨_, rfl, Lib.hid rfl, crcN_lt bs, hb⟩

/-- The reference's. -/
theorem rput_s {A : Option Addr} {n c : Nat} {bs : List UInt8} (m : Nat) {k x : Int} {w : World} (hs : Sl w A n bs) (hf : fitsB k x = true) (hk : k ≤ 9223372036854775807) (hm : n + x.toNat = m) (hl : m ≤ 1073741000) :
    Calls Try.prog 20 #[.slice A n c, .int .i64 k, .int .i64 x] w fun e w' => ∃ A' c', e = .returned (.slice A' m c') ∧ Own w' w.heap.size A' m c' (bs ++ leB k.toNat x.toNat) ∧ Grow w w' := by
  obtain ⟨rfl, hn, hr⟩ := hs
  refine (ref1_put A bs c k x w hr (by omega) hk).mono ?_
  rintro e w' ⟨v, rfl, hown, hb⟩
  rw [putB, if_pos hf] at hown
  obtain ⟨A', c', rfl, h⟩ := Own.ofOB hown m (by rw [List.length_append, leB_length]; exact hm) hl
  exact ⟨A', c', rfl, h, hb⟩
theorem rget_s {A : Option Addr} {n c : Nat} {bs : List UInt8} {at_ x : Int} {w : World} (hs : Sl w A n bs) (h0 : -9223372036854775808 ≤ at_) (h1 : at_ ≤ 9223372036854775807) :
    Calls Try.prog 88 #[.slice A n c, .int .i64 at_, .int .i64 x] w fun e w' => e = .returned (.tuple #[.int .i64 (getN bs at_ x), .bool (getK bs at_ x)]) ∧ w = w' := by
  obtain ⟨rfl, hn, hr⟩ := hs
  exact ref1_get A bs c at_ x h0 h1 _ w hr (by omega)
theorem rsum_s {A : Option Addr} {n c : Nat} {bs : List UInt8} {w : World} (hs : Sl w A n bs) :
    Calls Try.prog 84 #[.slice A n c] w fun e w' => ∃ q : Nat, e = .returned (.int .i64 (q : Int)) ∧ Hid (q = crcN bs) ∧ q < 4294967296 ∧ w = w' := by
  obtain ⟨hn, hl, hr⟩ := hs
  refine (ref2_sum A bs n c hn.symm _ w hr (by omega)).mono ?_
  rintro e w' ⟨rfl, rfl⟩
  exact ⟨_, rfl, Lib.hid rfl, crcN_lt bs, rfl⟩
theorem same_s {A A' : Option Addr} {n n' c c' : Nat} {xs ys : List UInt8} {w : World} (hx : Sl w A n xs) (hy : Sl w A' n' ys) :
    Calls Try.prog 23 #[.slice A n c, .slice A' n' c'] w fun e w' => ∃ s, e = .returned (.bool s) ∧ Hid (s = decide (xs = ys)) ∧ ∃ k, w' = w.drewN k := by
  obtain ⟨rfl, hn, hr⟩ := hx
  obtain ⟨rfl, hn', hr'⟩ := hy
  refine (ref1_same A A' xs ys c c' _ _ w hr hr' (by omega) (by omega)).mono ?_
  rintro e w' ⟨rfl, k, rfl⟩
  exact ⟨_, rfl, Lib.hid rfl, k, rfl⟩
/-- Two slices of the same bytes are the same. -/
theorem same_yes {A A' : Option Addr} {n n' c c' : Nat} {xs ys : List UInt8} {w : World} (hx : Sl w A n xs) (hy : Sl w A' n' ys) (he : xs = ys) :
    Calls Try.prog 23 #[.slice A n c, .slice A' n' c'] w fun e w' => e = .returned (.bool true) ∧ ∃ k, w' = w.drewN k := by
  refine (same_s hx hy).mono ?_
  rintro e w' ⟨s, rfl, hs, k, rfl⟩
  rw [hs.out, decide_eq_true he]
  exact ⟨rfl, k, rfl⟩
end Go.Proofs.Ytlinlmimakealaa

namespace Go.Proofs.Ytlinlmimakealaa
open Go.RowKit

def PT.cells (r : PT) : List Value := [.int .i64 r.pos, .string r.dat]
def pcs (L : List PT) : List Value := L.flatMap PT.cells
theorem pcs_append (a b : List PT) : pcs (a ++ b) = pcs a ++ pcs b := by simp [pcs]
theorem pcs_length (a : List PT) : (pcs a).length = a.length * 2 := by
  induction a with
  | nil => rfl
  | cons r a ih => rw [show pcs (r :: a) = PT.cells r ++ pcs a from rfl, List.length_append, ih]; simp [PT.cells]; omega
theorem pcs_one (a : List PT) : ∀ u ∈ pcs a, u.oneCell' = true := by
  intro u hu
  obtain ⟨r, -, hr⟩ := List.mem_flatMap.1 hu
  simp [PT.cells] at hr
  rcases hr with rfl | rfl <;> rfl
theorem pcs_get (L : List PT) (i j : Nat) (hi : i < L.length) (hj : j < 2) : (pcs L)[i * 2 + j]? = (PT.cells L[i])[j]? := by
  induction L generalizing i with
  | nil => simp at hi
  | cons r L ih =>
    rw [show pcs (r :: L) = PT.cells r ++ pcs L from rfl]
    match i with
    | 0 => rw [List.getElem?_append_left (by simp [PT.cells]; omega)]; simp
    | i + 1 =>
      rw [List.getElem?_append_right (by simp [PT.cells]; omega), show (i + 1) * 2 + j - (PT.cells r).length = i * 2 + j by simp [PT.cells]; omega]
      exact ih i (by simpa using hi)

/-- A row of patches of the call's own; a slice that reads as patches. -/
def OP (w : World) (base : Nat) (v : Value) (L : List PT) : Prop := w.ownsRow base 37 2 v L.length (pcs L)
def RP (w : World) (A : Option Addr) (n : Nat) (L : List PT) : Prop := L.length = n ∧ n ≤ 1073741000 ∧ Rd w w.heap.size A 2 n (pcs L)
theorem OP.nil (w : World) (base : Nat) : OP w base (.slice none 0 0) [] := World.ownsRow_nil _ _ _ _
theorem OP.alloc {w : World} {base : Nat} {v : Value} {L : List PT} (h : OP w base v L) (o : Obj) : OP (w.alloc o) base v L := World.ownsRow.alloc h o
theorem OP.low {w : World} {base B : Nat} {v : Value} {L : List PT} (h : OP w base v L) (hB : B ≤ base) : OP w B v L := World.ownsRow.mono h hB
theorem grow_by {w w' : World} (g : Grow w w') : w.grownBy w' none := ⟨g.os, g.tape, g.output, g.size, fun k hk _ => g.block k hk⟩
theorem own_none' (v : Value) : v.ownBlock = none ∨ v.ownBlock ≠ none := by cases v.ownBlock <;> simp
theorem OP.keep {w w' : World} {base : Nat} {v : Value} {L : List PT} (h : OP w base v L) (g : Grow w w') : OP w' base v L := World.ownsRow.kept h (grow_by g) (own_none' v)
/-- A row lies on where only other blocks turn. -/
theorem row_turn {w w' : World} {F : Nat → Prop} {base size n : Nat} {e : TypeId} {v : Value} {xs : List Value} (h : w.ownsRow base e size v n xs) (t : Turn F w w') (hF : ∀ g, v.ownBlock = some g → ¬ F g) : w'.ownsRow base e size v n xs := by
  obtain ⟨h1, h2⟩ := h
  refine ⟨h1, ?_⟩
  rcases h2 with h2 | ⟨g, cap, cur, hv, hb, hg, h3⟩
  · exact .inl h2
  · have hlt : g < w.heap.size := (Array.getElem?_eq_some_iff.1 hg).1
    exact .inr ⟨g, cap, cur, hv, hb, (t.block g hlt (hF g (by rw [hv]; rfl))).trans hg, h3⟩
theorem OP.turn {w w' : World} {F : Nat → Prop} {base : Nat} {v : Value} {L : List PT} (h : OP w base v L) (t : Turn F w w') (hF : ∀ g, v.ownBlock = some g → ¬ F g) : OP w' base v L := row_turn h t hF
theorem OP.rp {w : World} {base : Nat} {v : Value} {L : List PT} (h : OP w base v L) (hl : L.length ≤ 1073741000) : ∃ A c, v = .slice A L.length c ∧ L.length ≤ c ∧ RP w A L.length L := by
  obtain ⟨A, c, rfl, h1, -, -, -⟩ := own_form h
  exact ⟨A, c, rfl, h1, rfl, hl, Rd.of_own h⟩
section
variable {w w' : World} {A : Option Addr} {n : Nat} {L : List PT} {F : Nat → Prop}
theorem RP.keep (h : RP w A n L) (g : Grow w w') : RP w' A n L := ⟨h.1, h.2.1, (Rd.below h.2.2 g).more g.size⟩
theorem RP.nil : RP w A 0 [] := ⟨rfl, by omega, Rd.nil⟩
theorem RP.turn (h : RP w A n L) (t : Turn F w w') (hA : 0 < n → ∀ p, A = some p → ¬ F p.block) : RP w' A n L := by
  refine ⟨h.1, h.2.1, h.2.2.1, fun hn => ?_⟩
  obtain ⟨b, o, e, hb, hc⟩ := h.2.2.2 hn
  exact ⟨b, o, e, Nat.lt_of_lt_of_le hb t.size, fun j u hu => (t.cell (p := ⟨b, o + j, none⟩) hb (hA hn ⟨b, o, none⟩ e)).trans (hc j u hu)⟩
theorem RP.at_ (h : RP w A n L) {i : Nat} (hi : i < n) : ∃ b o r, L[i]? = some r ∧ A = some ⟨b, o, none⟩ ∧ b < w.heap.size ∧ w.cell? ⟨b, o + i * 2, none⟩ = some (.int .i64 r.pos) ∧ w.cell? ⟨b, o + i * 2 + 1, none⟩ = some (.string r.dat) := by
  obtain ⟨hn, -, hl, hr⟩ := h
  obtain ⟨b, o, rfl, hb, hc⟩ := hr (by omega)
  have hi' : i < L.length := by omega
  refine ⟨b, o, L[i], by simp [hi'], rfl, hb, ?_, ?_⟩
  · have := hc (i * 2 + 0) _ ((pcs_get L i 0 hi' (by omega)).trans rfl); simpa [Nat.add_assoc] using this
  · have := hc (i * 2 + 1) _ ((pcs_get L i 1 hi' (by omega)).trans rfl); simpa [Nat.add_assoc] using this
theorem RP.take (h : RP w A n L) {k : Nat} (hk : k ≤ n) : RP w A k (L.take k) := by
  obtain ⟨h1, h2, h3⟩ := h
  refine ⟨by rw [List.length_take]; omega, by omega, ?_⟩
  have e : pcs (L.take k) = (pcs L).take (k * 2) := by
    have := pcs_append (L.take k) (L.drop k)
    rw [List.take_append_drop] at this
    rw [this, List.take_left' (by rw [pcs_length, List.length_take]; congr 1; omega)]
  rw [e]
  exact Rd.take h3 hk
end

theorem pt_info : (Try.prog.info? 37).map (fun i => (i.zero, i.size, i.bytes)) = some (some (.agg #[.int .i64 0, .string ⟨#[]⟩]), 2, 24) := by kernel_rfl
theorem pts_info : (Try.prog.info? 34).map (fun i => (i.zero, i.size, i.bytes)) = some (some (.slice none 0 0), 1, 24) := by kernel_rfl

/-- 'append' at patches. -/
theorem wpList_appP {w : World} {ops : Array Oper} {rest : List Oper} {o : Oper} {a : Act} {Q : Exit → Act → World → Prop} (hgd : o.guard = none) (s x : Operand)
    (ho : o.op = .call { callee := .builtin .append, args := #[s, x], argTypes := #[34, 34] })
    (base : Nat) (v : Value) (L : List PT) (hs : a.eval s = v) (hown : OP w base v L)
    (B : Nat) (A : Option Addr) (c : Nat) (news : List PT) (m : Nat) (hm : m = news.length) (hx : a.eval x = .slice A m c) (hr : Rd w B A 2 news.length (pcs news))
    (h63 : L.length + news.length ≤ 1000000) (hbase : base ≤ w.heap.size)
    (h : ∀ v' w', OP w' base v' (L ++ news) → w.grownBy w' v.ownBlock → (v'.ownBlock = v.ownBlock ∨ v'.ownBlock = some w.heap.size) → wpList Try.prog ops Q rest (a.put o.dst v') w') : wpList Try.prog ops Q (o :: rest) a w := by
  subst hm
  obtain ⟨i0, hi, hz, h1, h2⟩ := info_parts pt_info
  refine wpList_app hgd s x _ ho base 37 i0 _ 2 24 Try.underlying34 hi hz h1 h2 rfl (by omega) v L.length (pcs L) hs hown B A news.length c (pcs news) hx hr (pcs_one news) (by unfold maxLen; omega) (by omega) hbase ?_
  intro v' w' h3 h4 h5
  exact h v' w' (by unfold OP; rw [List.length_append, pcs_append]; exact h3) h4 h5

theorem Rd.litP (w : World) (t : TypeId) (vs : List Value) (size n : Nat) (hn : vs.length = n * size) : Rd (w.alloc (.cells vs.toArray t)) (w.heap.size + 1) (some ⟨w.heap.size, 0, none⟩) size n vs := by
  refine ⟨hn, fun _ => ⟨_, _, rfl, by omega, fun j u hu => ?_⟩⟩
  rw [cell_of_row _ _ (0 + j) vs.toArray t (0, 0) (heap_alloc_new w _)]
  simpa using hu

/-- 'append(out, p)': one patch, which the translation lays in a new block first. -/
theorem wpList_appP1 {w : World} {ops : Array Oper} {rest : List Oper} {o : Oper} {a : Act} {Q : Exit → Act → World → Prop} (hgd : o.guard = none) (s x : Operand)
    (ho : o.op = .call { callee := .builtin .append, args := #[s, x], argTypes := #[34, 34] })
    (base : Nat) (v : Value) (L : List PT) (hs : a.eval s = v) (r : PT) (hx : a.eval x = .slice (some ⟨w.heap.size, 0, none⟩) 1 1) (hown : OP w base v L)
    (h63 : L.length + 1 ≤ 1000000) (hbase : base ≤ w.heap.size)
    (h : ∀ v' w', OP w' base v' (L ++ [r]) → Below base w w' → wpList Try.prog ops Q rest (a.put o.dst v') w') : wpList Try.prog ops Q (o :: rest) a (w.alloc (.cells #[.int .i64 r.pos, .string r.dat] 37)) := by
  refine wpList_appP hgd s x ho base v L hs (hown.alloc _) (w.heap.size + 1) (some ⟨w.heap.size, 0, none⟩) 1 [r] 1 rfl hx (Rd.litP w _ (pcs [r]) 2 1 rfl) h63 (by simp; omega) ?_
  intro v' w' q1 q2 q3
  exact h v' w' q1 (((Below.refl _ _).alloc hbase _).trans ((Below.refl _ _).grown q2 (by simp; omega) (fun k hk => (World.ownsRow.lt hown k hk).1)))

/-! ### rows of rows -/
structure RW where
  v : Value
  L : List PT
def RW.vals (R : List RW) : List Value := R.map RW.v
/-- A row of rows of patches, all of the call's own, none of them the row itself. -/
def OW (w : World) (base : Nat) (v : Value) (R : List RW) : Prop :=
  w.ownsRow base 34 1 v R.length (R.map RW.v) ∧ (∀ r ∈ R, OP w base r.v r.L) ∧ ∀ r ∈ R, ∀ g, r.v.ownBlock = some g → v.ownBlock ≠ some g
theorem OW.nil (w : World) (base : Nat) : OW w base (.slice none 0 0) [] := ⟨World.ownsRow_nil _ _ _ _, fun _ h => by simp at h, fun _ h => by simp at h⟩
theorem OW.turn {w w' : World} {F : Nat → Prop} {base : Nat} {v : Value} {R : List RW} (h : OW w base v R) (t : Turn F w w') (hF : ∀ g, F g → g < base ∨ w.heap.size ≤ g) : OW w' base v R := by
  refine ⟨row_turn h.1 t fun g hg q => ?_, fun r hr => (h.2.1 r hr).turn t fun g hg q => ?_, h.2.2⟩
  · have := World.ownsRow.lt h.1 g hg; have := hF g q; omega
  · have := World.ownsRow.lt (h.2.1 r hr) g hg; have := hF g q; omega
theorem OW.keep {w w' : World} {base : Nat} {v : Value} {R : List RW} (h : OW w base v R) (g : Grow w w') : OW w' base v R := h.turn (F := fun _ => False) (Turn.grow g _) fun _ q => q.elim
theorem OW.low {w : World} {base B : Nat} {v : Value} {R : List RW} (h : OW w base v R) (hB : B ≤ base) : OW w B v R := ⟨World.ownsRow.mono h.1 hB, fun r hr => (h.2.1 r hr).low hB, h.2.2⟩
theorem slice_one (v : Value) (h : ∃ A n c, v = .slice A n c) : v.oneCell' = true := by
  obtain ⟨A, n, c, rfl⟩ := h; rfl
theorem OP.form {w : World} {base : Nat} {v : Value} {L : List PT} (h : OP w base v L) : ∃ A c, v = .slice A L.length c ∧ L.length ≤ c := by
  obtain ⟨A, c, rfl, h1, -, -, -⟩ := own_form h
  exact ⟨A, c, rfl, h1⟩
/-- 'append(out, p)': one row. -/
theorem wpList_appW {w : World} {ops : Array Oper} {rest : List Oper} {o : Oper} {a : Act} {Q : Exit → Act → World → Prop} (hgd : o.guard = none) (s x : Operand)
    (ho : o.op = .call { callee := .builtin .append, args := #[s, x], argTypes := #[111, 111] })
    (base : Nat) (v : Value) (R : List RW) (hs : a.eval s = v) (r : RW) (u : Value) (hu : r.v = u) (hx : a.eval x = .slice (some ⟨w.heap.size, 0, none⟩) 1 1) (hown : OW w base v R)
    (hr : OP w base r.v r.L) (hrv : ∀ g, r.v.ownBlock = some g → v.ownBlock ≠ some g)
    (h63 : R.length + 1 ≤ 1000000) (hbase : base ≤ w.heap.size)
    (h : ∀ v' w', OW w' base v' (R ++ [r]) → Turn (fun k => v.ownBlock = some k) w w' → Below base w w' → wpList Try.prog ops Q rest (a.put o.dst v') w') : wpList Try.prog ops Q (o :: rest) a (w.alloc (.cells #[u] 34)) := by
  subst hu
  obtain ⟨i0, hi, hz, h1, h2⟩ := info_parts pts_info
  obtain ⟨ho1, ho2, ho3⟩ := hown
  have hone : r.v.oneCell' = true := slice_one _ (by obtain ⟨A, c, e, -⟩ := hr.form; exact ⟨_, _, _, e⟩)
  refine wpList_app hgd s x _ ho base 34 i0 _ 1 24 Try.underlying111 hi hz h1 h2 rfl (by omega) v R.length _ hs (World.ownsRow.alloc ho1 _) (w.heap.size + 1) (some ⟨w.heap.size, 0, none⟩) 1 1 [r.v] hx (Rd.litP w _ [r.v] 1 1 rfl) (by intro q hq; simp at hq; subst hq; exact hone) (by unfold maxLen; omega) (by omega) (by simp; omega) ?_
  intro v' w' h3 h4 h5
  have ha := Turn.grow ((Grow.refl w).alloc (.cells #[r.v] 34)) fun k => v.ownBlock = some k
  have ht : Turn (fun k => v.ownBlock = some k) w w' := ha.and (Turn.grown h4 fun j hj => hj)
  refine h v' w' ⟨?_, ?_, ?_⟩ ht (ht.low (fun i hi => (World.ownsRow.lt ho1 i hi).1) hbase)
  · rw [List.length_append, List.map_append]; exact h3
  · intro q hq
    rcases List.mem_append.1 hq with hq | hq
    · exact (ho2 q hq).turn ht fun g hg hv => ho3 q hq g hg hv
    · simp at hq
      subst hq
      exact hr.turn ht fun g hg hv => hrv g hg hv
  · intro q hq g hg hv
    have hlt : g < w.heap.size ∧ v.ownBlock ≠ some g := by
      rcases List.mem_append.1 hq with hq | hq
      · exact ⟨(World.ownsRow.lt (ho2 q hq) g hg).2, ho3 q hq g hg⟩
      · simp at hq
        subst hq
        exact ⟨(World.ownsRow.lt hr g hg).2, hrv g hg⟩
    rcases h5 with h5 | h5
    · exact hlt.2 (h5 ▸ hv)
    · rw [h5] at hv
      injection hv with hv
      simp at hv
      omega
end Go.Proofs.Ytlinlmimakealaa

namespace Go.Proofs.Ytlinlmimakealaa
open Go.RowKit

/-- num.may, num.Up, num.Down. -/
theorem num_may (n tz : Int) (w : World) : Calls Try.prog 61 #[.int .i64 n, .int .i64 tz] w fun e w' => e = .returned (.bool (mayB n tz)) ∧ w = w' := by
  go_enter Try.func61, Try.ntmps61
  go_wp2
  all_goals (go_ret; refine ⟨ret_bool ?_, rfl⟩)
  all_goals (rw [Bool.eq_iff_iff]; simp [mayB])
  all_goals omega

theorem num_up (n tz : Int) (w : World) : Calls Try.prog 35 #[.int .i64 n, .int .i64 tz] w fun e w' => e = .returned (.int .i64 (upN n tz)) ∧ w = w' := by
  by_cases hm : mayB n tz = true
  · obtain ⟨h1, h2, h3, h4⟩ := may_iff.1 hm
    have hu := up_bounds (n := n) h1
    have e : wrap64 ((n + tz - 1) / tz * tz) = upN n tz := by
      rw [IntWalk.wrap64_in _ ⟨by omega, by omega⟩]; simp [upN, hm]
    have HE := Lib.hid e
    clear e hu
    go_enter Try.func35, Try.ntmps35
    go_wp2_with (go_at_call 61; refine (num_may _ _ _).mono ?_; rintro e w' ⟨rfl, rfl⟩)
    go_ret
    exact ⟨ret_int HE.out, rfl⟩
  · have hm : mayB n tz = false := by simpa using hm
    go_enter Try.func35, Try.ntmps35
    go_wp2_with (go_at_call 61; refine (num_may _ _ _).mono ?_; rintro e w' ⟨rfl, rfl⟩)
    go_ret
    exact ⟨ret_int (by simp [upN, hm]), rfl⟩
end Go.Proofs.Ytlinlmimakealaa
