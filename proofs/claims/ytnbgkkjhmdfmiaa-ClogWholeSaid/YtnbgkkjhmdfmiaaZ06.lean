/- Lists of records and of ints: what is appended and what is read. Records: may they be; numbers of a width. files.May and the document's. num.may and num.Up. No statement of the seat is proved here. -/
import Derived.Test.YtnbgkkjhmdfmiaaZ04
import Derived.Test.YtnbgkkjhmdfmiaaZ05
import Derived.Test.YtnbgkkjhmdfmiaaZ02
import Derived.Deep.Onto
namespace Go.Proofs.Ytnbgkkjhmdfmiaa
open Go.RowKit

structure R5 where
  call : Int
  ino : Int
  tr : Bool
  off : Int
  dat : ByteArray
def R5.cells (r : R5) : List Value := [.int .i64 r.call, .int .i64 r.ino, .bool r.tr, .int .i64 r.off, .string r.dat]
def rcs (L : List R5) : List Value := L.flatMap R5.cells
def ics (L : List Int) : List Value := L.map (fun n => .int .i64 n)
def recOf (b : List UInt8) : R5 := ⟨dCall b, dIno b, dTr b, dOff b, ⟨(dDat b).toArray⟩⟩

theorem rcs_append (a b : List R5) : rcs (a ++ b) = rcs a ++ rcs b := by simp [rcs]
theorem ics_append (a b : List Int) : ics (a ++ b) = ics a ++ ics b := by simp [ics]
theorem rcs_length (a : List R5) : (rcs a).length = a.length * 5 := by
  induction a with
  | nil => rfl
  | cons r a ih => rw [show rcs (r :: a) = R5.cells r ++ rcs a from rfl, List.length_append, ih]; simp [R5.cells]; omega
theorem ics_length (a : List Int) : (ics a).length = a.length * 1 := by simp [ics]
theorem rcs_one (a : List R5) : ∀ u ∈ rcs a, u.oneCell' = true := by
  intro u hu
  obtain ⟨r, -, hr⟩ := List.mem_flatMap.1 hu
  simp [R5.cells] at hr
  rcases hr with rfl | rfl | rfl | rfl | rfl <;> rfl
theorem ics_one (a : List Int) : ∀ u ∈ ics a, u.oneCell' = true := by
  intro u hu
  obtain ⟨r, -, rfl⟩ := List.mem_map.1 hu
  rfl
theorem rcs_get (L : List R5) (i j : Nat) (hi : i < L.length) (hj : j < 5) : (rcs L)[i * 5 + j]? = (R5.cells L[i])[j]? := by
  induction L generalizing i with
  | nil => simp at hi
  | cons r L ih =>
    rw [show rcs (r :: L) = R5.cells r ++ rcs L from rfl]
    match i with
    | 0 => rw [List.getElem?_append_left (by simp [R5.cells]; omega)]; simp
    | i + 1 =>
      rw [List.getElem?_append_right (by simp [R5.cells]; omega), show (i + 1) * 5 + j - (R5.cells r).length = i * 5 + j by simp [R5.cells]; omega]
      exact ih i (by simpa using hi)

/-- A row of records (of ints) of the call's own. -/
def OR (w : World) (base : Nat) (v : Value) (L : List R5) : Prop := w.ownsRow base 31 5 v L.length (rcs L)
def OI (w : World) (base : Nat) (v : Value) (L : List Int) : Prop := w.ownsRow base 3 1 v L.length (ics L)
theorem OR.nil (w : World) (base : Nat) : OR w base (.slice none 0 0) [] := World.ownsRow_nil _ _ _ _
theorem OI.nil (w : World) (base : Nat) : OI w base (.slice none 0 0) [] := World.ownsRow_nil _ _ _ _
theorem OR.alloc {w : World} {base : Nat} {v : Value} {L : List R5} (h : OR w base v L) (o : Obj) : OR (w.alloc o) base v L := World.ownsRow.alloc h o
theorem OI.alloc {w : World} {base : Nat} {v : Value} {L : List Int} (h : OI w base v L) (o : Obj) : OI (w.alloc o) base v L := World.ownsRow.alloc h o

theorem rec_info : (Try.prog.info? 31).map (fun i => (i.zero, i.size, i.bytes)) = some (some (.agg #[.int .i64 0, .int .i64 0, .bool false, .int .i64 0, .string ⟨#[]⟩]), 5, 48) := by kernel_rfl
theorem int_info : (Try.prog.info? 3).map (fun i => (i.zero, i.size, i.bytes)) = some (some (.int .i64 0), 1, 8) := by kernel_rfl

/-- 'append' at records. -/
theorem wpList_appR {w : World} {ops : Array Oper} {rest : List Oper} {o : Oper} {a : Act} {Q : Exit → Act → World → Prop} (hgd : o.guard = none) (s x : Operand)
    (ho : o.op = .call { callee := .builtin .append, args := #[s, x], argTypes := #[43, 43] })
    (base : Nat) (v : Value) (L : List R5) (hs : a.eval s = v) (hown : OR w base v L)
    (B : Nat) (A : Option Addr) (c : Nat) (news : List R5) (m : Nat) (hm : m = news.length) (hx : a.eval x = .slice A m c) (hr : Rd w B A 5 news.length (rcs news))
    (h63 : L.length + news.length ≤ 1000000) (hbase : base ≤ w.heap.size)
    (h : ∀ v' w', OR w' base v' (L ++ news) → Below base w w' → w.grownBy w' v.ownBlock → (v'.ownBlock = v.ownBlock ∨ v'.ownBlock = some w.heap.size) → wpList Try.prog ops Q rest (a.put o.dst v') w') : wpList Try.prog ops Q (o :: rest) a w := by
  subst hm
  obtain ⟨i0, hi, hz, h1, h2⟩ := info_parts rec_info
  refine wpList_app hgd s x _ ho base 31 i0 _ 5 48 Try.underlying43 hi hz h1 h2 rfl (by omega) v L.length (rcs L) hs hown B A news.length c (rcs news) hx hr (rcs_one news) (by unfold maxLen; omega) (by omega) hbase ?_
  intro v' w' h3 h4 h5
  exact h v' w' (by unfold OR; rw [List.length_append, rcs_append]; exact h3) ((Below.refl _ _).grown h4 hbase (fun k hk => (hown.lt k hk).1)) h4 h5
theorem wpList_appI {w : World} {ops : Array Oper} {rest : List Oper} {o : Oper} {a : Act} {Q : Exit → Act → World → Prop} (hgd : o.guard = none) (s x : Operand)
    (ho : o.op = .call { callee := .builtin .append, args := #[s, x], argTypes := #[45, 45] })
    (base : Nat) (v : Value) (L : List Int) (hs : a.eval s = v) (hown : OI w base v L)
    (B : Nat) (A : Option Addr) (c : Nat) (news : List Int) (m : Nat) (hm : m = news.length) (hx : a.eval x = .slice A m c) (hr : Rd w B A 1 news.length (ics news))
    (h63 : L.length + news.length ≤ 1000000) (hbase : base ≤ w.heap.size)
    (h : ∀ v' w', OI w' base v' (L ++ news) → Below base w w' → w.grownBy w' v.ownBlock → (v'.ownBlock = v.ownBlock ∨ v'.ownBlock = some w.heap.size) → wpList Try.prog ops Q rest (a.put o.dst v') w') : wpList Try.prog ops Q (o :: rest) a w := by
  subst hm
  obtain ⟨i0, hi, hz, h1, h2⟩ := info_parts int_info
  refine wpList_app hgd s x _ ho base 3 i0 _ 1 8 Try.underlying45 hi hz h1 h2 rfl (by omega) v L.length (ics L) hs hown B A news.length c (ics news) hx hr (ics_one news) (by unfold maxLen; omega) (by omega) hbase ?_
  intro v' w' h3 h4 h5
  exact h v' w' (by unfold OI; rw [List.length_append, ics_append]; exact h3) ((Below.refl _ _).grown h4 hbase (fun k hk => (hown.lt k hk).1)) h4 h5

/-- One record, one int: the translation lays it in a new block first. -/
theorem Rd.litV (w : World) (t : TypeId) (vs : List Value) (size n : Nat) (hn : vs.length = n * size) : Rd (w.alloc (.cells vs.toArray t)) (w.heap.size + 1) (some ⟨w.heap.size, 0, none⟩) size n vs := by
  refine ⟨hn, fun _ => ⟨_, _, rfl, by omega, fun j u hu => ?_⟩⟩
  rw [cell_of_row _ _ (0 + j) vs.toArray t (0, 0) (heap_alloc_new w _)]
  simpa using hu
/-- A row of records and a row of ints, apart. -/
def Two (w : World) (base : Nat) (v : Value) (L : List R5) (u : Value) (K : List Int) : Prop := OR w base v L ∧ OI w base u K ∧ ∀ g, v.ownBlock = some g → u.ownBlock ≠ some g
theorem Two.nil (w : World) (base : Nat) : Two w base (.slice none 0 0) [] (.slice none 0 0) [] := ⟨OR.nil _ _, OI.nil _ _, fun g h => by simp [Value.ownBlock] at h⟩
theorem Grow.grown {w w' : World} (g : Grow w w') : w.grownBy w' none := ⟨g.os, g.tape, g.output, g.size, fun k hk _ => g.block k hk⟩
theorem own_none (v : Value) : v.ownBlock = none ∨ v.ownBlock ≠ none := by cases v.ownBlock <;> simp
theorem Two.keep {w w' : World} {base : Nat} {v u : Value} {L : List R5} {K : List Int} (h : Two w base v L u K) (g : Grow w w') : Two w' base v L u K :=
  ⟨World.ownsRow.kept h.1 g.grown (own_none _), World.ownsRow.kept h.2.1 g.grown (own_none _), h.2.2⟩
theorem Two.low {w : World} {base B : Nat} {v u : Value} {L : List R5} {K : List Int} (h : Two w base v L u K) (hB : B ≤ base) : Two w B v L u K :=
  ⟨World.ownsRow.mono h.1 hB, World.ownsRow.mono h.2.1 hB, h.2.2⟩

theorem wpList_appR1 {w : World} {ops : Array Oper} {rest : List Oper} {o : Oper} {a : Act} {Q : Exit → Act → World → Prop} (hgd : o.guard = none) (s x : Operand)
    (ho : o.op = .call { callee := .builtin .append, args := #[s, x], argTypes := #[43, 43] })
    (base : Nat) (v u : Value) (L : List R5) (K : List Int) (hs : a.eval s = v) (r : R5) (hx : a.eval x = .slice (some ⟨w.heap.size, 0, none⟩) 1 1) (hown : Two w base v L u K)
    (h63 : L.length + 1 ≤ 1000000) (hbase : base ≤ w.heap.size)
    (h : ∀ v' w', Two w' base v' (L ++ [r]) u K → Below base w w' → wpList Try.prog ops Q rest (a.put o.dst v') w') : wpList Try.prog ops Q (o :: rest) a (w.alloc (.cells #[.int .i64 r.call, .int .i64 r.ino, .bool r.tr, .int .i64 r.off, .string r.dat] 31)) := by
  obtain ⟨h1, h2, h3⟩ := hown
  refine wpList_appR hgd s x ho base v L hs (h1.alloc _) (w.heap.size + 1) (some ⟨w.heap.size, 0, none⟩) 1 [r] 1 rfl hx (Rd.litV w _ (rcs [r]) 5 1 rfl) h63 (by simp; omega) ?_
  intro v' w' q1 q2 q3 q4
  have h2' := h2.alloc (.cells #[.int .i64 r.call, .int .i64 r.ino, .bool r.tr, .int .i64 r.off, .string r.dat] 31)
  refine h v' w' ⟨q1, World.ownsRow.kept h2' q3 ?_, ?_⟩ (((Below.refl _ _).alloc hbase _).trans q2)
  · cases hu : u.ownBlock with
    | none => exact .inl rfl
    | some g => exact .inr fun e => h3 g e.symm hu
  · intro g hg hu
    rcases q4 with q4 | q4
    · exact h3 g (q4 ▸ hg) hu
    · rw [q4] at hg
      injection hg with hg
      have := (World.ownsRow.lt h2 g hu).2
      simp at hg
      omega
theorem wpList_appI1 {w : World} {ops : Array Oper} {rest : List Oper} {o : Oper} {a : Act} {Q : Exit → Act → World → Prop} (hgd : o.guard = none) (s x : Operand)
    (ho : o.op = .call { callee := .builtin .append, args := #[s, x], argTypes := #[45, 45] })
    (base : Nat) (v u : Value) (L : List R5) (K : List Int) (hs : a.eval s = u) (r : Int) (hx : a.eval x = .slice (some ⟨w.heap.size, 0, none⟩) 1 1) (hown : Two w base v L u K)
    (h63 : K.length + 1 ≤ 1000000) (hbase : base ≤ w.heap.size)
    (h : ∀ u' w', Two w' base v L u' (K ++ [r]) → Below base w w' → wpList Try.prog ops Q rest (a.put o.dst u') w') : wpList Try.prog ops Q (o :: rest) a (w.alloc (.cells #[.int .i64 r] 3)) := by
  obtain ⟨h1, h2, h3⟩ := hown
  refine wpList_appI hgd s x ho base u K hs (h2.alloc _) (w.heap.size + 1) (some ⟨w.heap.size, 0, none⟩) 1 [r] 1 rfl hx (Rd.litV w _ (ics [r]) 1 1 rfl) h63 (by simp; omega) ?_
  intro u' w' q1 q2 q3 q4
  have h1' := h1.alloc (.cells #[.int .i64 r] 3)
  refine h u' w' ⟨World.ownsRow.kept h1' q3 ?_, q1, ?_⟩ (((Below.refl _ _).alloc hbase _).trans q2)
  · cases hv : v.ownBlock with
    | none => exact .inl rfl
    | some g => exact .inr fun e => h3 g hv e.symm
  · intro g hg hu
    rcases q4 with q4 | q4
    · exact h3 g hg (q4 ▸ hu)
    · rw [q4] at hu
      injection hu with hu
      have := (World.ownsRow.lt h1 g hg).2
      simp at hu
      omega

/-! ### the scan -/
/-- What lies from h to n of a log. -/
def midB (b : List UInt8) (n h : Nat) : List UInt8 := (b.drop (8 + h)).take (n - h)
def scanW (b : List UInt8) (n h : Nat) : List (R5 × Int) :=
  if _hh : h < n ∧ decE (midB b n h) = 0 ∧ 0 < decL (midB b n h) then (recOf (midB b n h), ((h + decL (midB b n h) : Nat) : Int)) :: scanW b n (h + decL (midB b n h)) else []
termination_by n - h
decreasing_by omega

theorem decL_pos {b : List UInt8} (h : decE b = 0) : 17 ≤ decL b ∧ decL b ≤ b.length := by
  rw [decL, if_pos h]
  rw [decE] at h
  split at h
  · simp at h
  split at h
  · simp at h
  split at h
  · split at h
    · rename_i hp
      simp only [sameP, Bool.and_eq_true, decide_eq_true_iff] at hp
      exact ⟨by unfold dAll; omega, hp.2.1⟩
    · simp at h
  · simp at h
theorem scanW_go {b : List UInt8} {n h : Nat} (h1 : h < n) (h2 : decE (midB b n h) = 0) : scanW b n h = (recOf (midB b n h), ((h + decL (midB b n h) : Nat) : Int)) :: scanW b n (h + decL (midB b n h)) := by
  rw [scanW, dif_pos ⟨h1, h2, by have := decL_pos h2; omega⟩]
theorem scanW_end {b : List UInt8} {n h : Nat} (h1 : ¬ h < n) : scanW b n h = [] := by
  rw [scanW, dif_neg (fun q => h1 q.1)]
theorem scanW_bad {b : List UInt8} {n h : Nat} (h2 : decE (midB b n h) ≠ 0) : scanW b n h = [] := by
  rw [scanW, dif_neg (fun q => h2 q.2.1)]
theorem midB_length {b : List UInt8} {n h : Nat} (h1 : 8 + n ≤ b.length) : (midB b n h).length = n - h := by
  rw [midB, List.length_take, List.length_drop]; omega
theorem scanW_step {b : List UInt8} {n h : Nat} (hb : 8 + n ≤ b.length) (h1 : h < n) (h2 : decE (midB b n h) = 0) : h + 17 ≤ h + decL (midB b n h) ∧ h + decL (midB b n h) ≤ n := by
  have := decL_pos h2
  rw [midB_length hb] at this
  omega
end Go.Proofs.Ytnbgkkjhmdfmiaa

namespace Go.Proofs.Ytnbgkkjhmdfmiaa
open Go.RowKit

theorem OB.lower {w : World} {B base : Nat} {v : Value} {bs : List UInt8} (h : OB w B v bs) (hb : base ≤ B) : OB w base v bs := World.ownsRow.mono h hb

theorem files_in (n a b : Int) (w : World) : Calls Try.prog 37 #[.int .i64 n, .int .i64 a, .int .i64 b] w fun e w' => e = .returned (.bool (decide (a ≤ n ∧ n ≤ b))) ∧ w = w' := by
  go_enter Try.func37, Try.ntmps37
  go_wp2
  all_goals (go_ret; refine ⟨ret_bool ?_, rfl⟩)
  all_goals (rw [Bool.eq_iff_iff]; simp)
  all_goals omega

theorem clog_bit (b : Bool) (w : World) : Calls Try.prog 27 #[.bool b] w fun e w' => e = .returned (.int .i64 (if b then 1 else 0)) ∧ w = w' := by
  cases b
  all_goals
    go_enter Try.func27, Try.ntmps27
    go_wp2
    go_ret
    exact ⟨rfl, rfl⟩

theorem clog_numbers (A : Option Addr) (bs : List UInt8) (c : Nat) (x : Int) (b o lc : Nat) (ns : List Int) (hns : ∀ n ∈ ns, -9223372036854775808 ≤ n ∧ n ≤ 9223372036854775807) (hpos : 0 < ns.length) (hsm : ns.length ≤ 8)
    (w : World) (hr : RB w w.heap.size A bs) (hl : bs.length ≤ 1073741000) (hbw : b < w.heap.size) (hL : ∀ j (h : j < ns.length), w.cell? ⟨b, o + j, none⟩ = some (.int .i64 ns[j])) :
    Calls Try.prog 26 #[.slice A bs.length c, .int .i64 x, .slice (some ⟨b, o, none⟩) ns.length lc] w fun e w' => ∃ v, e = .returned v ∧ OB w' w.heap.size v (putsB bs x ns) ∧ Below w.heap.size w w' := by
  have hlen : ∀ k, k ≤ ns.length → (putsB bs x (ns.take k)).length ≤ 1073741824 := by
    intro k hk
    have := putsB_length bs x (ns.take k)
    rw [List.length_take] at this
    omega
  have HLEN := Lib.hid hlen
  have HL := Lib.hid hL
  have HN := Lib.hid hns
  clear hlen hL hns
  go_enter Try.func26, Try.ntmps26
  go_wp2_with fail
  go_loopw [0, 11] (fun v i wr => ∃ k : Nat, k ≤ ns.length ∧ i = .int .i64 k ∧ (∃ A' c' bk, bk = putsB bs x (ns.take k) ∧ v = .slice A' bk.length c' ∧ RB wr wr.heap.size A' bk) ∧ (0 < k → OB wr w.heap.size v (putsB bs x (ns.take k))) ∧ Below w.heap.size w wr) (fun _ i _ => ns.length - (intOf i).toNat)
  case atStart => exact ⟨0, Nat.zero_le _, rfl, ⟨A, c, bs, rfl, rfl, hr⟩, fun h => absurd h (by omega), Below.refl _ _⟩
  case round =>
    obtain ⟨k, hk, rfl, ⟨A', c', bk, hbk, rfl, hrk⟩, hok, hb⟩ := hrel
    by_cases hlt : k < ns.length
    · have hcell := HL.out k hlt
      rw [← hb.cell (p := ⟨b, o + k, none⟩) hbw] at hcell
      have hn := HN.out ns[k] (List.getElem_mem hlt)
      obtain ⟨n, hn2⟩ : ∃ n, n = ns[k] := ⟨_, rfl⟩
      rw [← hn2] at hcell hn
      obtain ⟨hn0, hn1⟩ := hn
      have hlk := HLEN.out k hk
      rw [← hbk] at hlk
      have HK := Lib.hid hbk
      have HN2 := Lib.hid hn2
      have HOK := Lib.hid hok
      clear hbk hn2 hok hr
      have hz := hb.size
      go_wp2_with fail
      refine (num_put A' bk c' n x hn0 hn1 _ hrk hlk).mono ?_
      rintro e w2 ⟨v2, rfl, hown2, hb2⟩
      have hnext : putB bk n x = putsB bs x (ns.take (k + 1)) := by rw [putsB_take _ _ _ _ hlt, ← HK.out, ← HN2.out]
      go_wp2_with fail
      go_roundw
      case rel =>
        obtain ⟨A2, c2, rfl, -, -, hrd2, -⟩ := hown2.form
        refine ⟨k + 1, by omega, by go_num, ⟨A2, c2, _, hnext.symm ▸ rfl, rfl, hrd2⟩, fun _ => by rw [← hnext]; exact hown2.lower hz, hb.trans (hb2.mono hz)⟩
      case measure => simp [intOf]; omega
    · obtain rfl : k = ns.length := by omega
      go_wp2
      go_ret
      refine ⟨_, rfl, ?_, hb⟩
      have := hok hpos
      rwa [List.take_length] at this

end Go.Proofs.Ytnbgkkjhmdfmiaa

namespace Go.Proofs.Ytnbgkkjhmdfmiaa
open Go.RowKit

theorem empty_size (s : ByteArray) : s.toList.isEmpty = decide (s.size = 0) := by
  rw [Bool.eq_iff_iff, ByteArray.toList_eq, List.isEmpty_iff_length_eq_zero, decide_eq_true_iff, Array.length_toList]
  rfl

theorem files_may (call inode off : Int) (tr : Bool) (s : ByteArray) (w : World) :
    Calls Try.prog 25 #[.agg #[.int .i64 call, .int .i64 inode, .bool tr, .int .i64 off, .string s]] w fun e w' => e = .returned (.bool (mayR call inode tr off s.size)) ∧ Below w.heap.size w w' := by
  go_enter Try.func25, Try.ntmps25
  go_wp2_with (go_at_call 37; refine (files_in _ _ _ _).mono ?_; rintro e w' ⟨rfl, rfl⟩)
  all_goals (go_ret; refine ⟨ret_bool ?_, (Below.refl _ _).alloc (Nat.le_refl _) _⟩)
  all_goals (rw [Bool.eq_iff_iff, mayR_iff]; simp only [empty_size, decide_eq_true_iff, Bool.false_eq_true, true_iff, false_iff])
  all_goals (first | omega | (simp_all; done) | (simp_all; omega))

theorem ref15_may (call inode off : Int) (tr : Bool) (s : ByteArray) (w : World) :
    Calls Try.prog 31 #[.agg #[.int .i64 call, .int .i64 inode, .bool tr, .int .i64 off, .string s]] w fun e w' => e = .returned (.bool (mayR call inode tr off s.size)) ∧ Below w.heap.size w w' := by
  go_enter Try.func31, Try.ntmps31
  go_wp2
  all_goals (go_ret; refine ⟨ret_bool ?_, (Below.refl _ _).alloc (Nat.le_refl _) _⟩)
  all_goals (rw [Bool.eq_iff_iff, mayR_iff]; simp only [empty_size, decide_eq_true_iff, Bool.false_eq_true, true_iff, false_iff])
  all_goals (first | omega | (simp_all; done) | (simp_all; omega))
end Go.Proofs.Ytnbgkkjhmdfmiaa

namespace Go.Proofs.Ytnbgkkjhmdfmiaa
open Go.RowKit

/-- num.may, num.Up, num.Down. -/
theorem num_may (n tz : Int) (w : World) : Calls Try.prog 43 #[.int .i64 n, .int .i64 tz] w fun e w' => e = .returned (.bool (mayB n tz)) ∧ w = w' := by
  go_enter Try.func43, Try.ntmps43
  go_wp2
  all_goals (go_ret; refine ⟨ret_bool ?_, rfl⟩)
  all_goals (rw [Bool.eq_iff_iff]; simp [mayB])
  all_goals omega

theorem num_up (n tz : Int) (w : World) : Calls Try.prog 30 #[.int .i64 n, .int .i64 tz] w fun e w' => e = .returned (.int .i64 (upN n tz)) ∧ w = w' := by
  by_cases hm : mayB n tz = true
  · obtain ⟨h1, h2, h3, h4⟩ := may_iff.1 hm
    have hu := up_bounds (n := n) h1
    have e : wrap64 ((n + tz - 1) / tz * tz) = upN n tz := by
      rw [IntWalk.wrap64_in _ ⟨by omega, by omega⟩]; simp [upN, hm]
    have HE := Lib.hid e
    clear e hu
    go_enter Try.func30, Try.ntmps30
    go_wp2_with (go_at_call 43; refine (num_may _ _ _).mono ?_; rintro e w' ⟨rfl, rfl⟩)
    go_ret
    exact ⟨ret_int HE.out, rfl⟩
  · have hm : mayB n tz = false := by simpa using hm
    go_enter Try.func30, Try.ntmps30
    go_wp2_with (go_at_call 43; refine (num_may _ _ _).mono ?_; rintro e w' ⟨rfl, rfl⟩)
    go_ret
    exact ⟨ret_int (by simp [upN, hm]), rfl⟩
end Go.Proofs.Ytnbgkkjhmdfmiaa
