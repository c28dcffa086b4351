/- Words of our own for memory: slices that read as lists, rows of the call's own, and what is kept over steps. From a row's arguments to our words: bytes, bounds. An argument that is a slice of slices of bytes. Plain functions of chapter 1 on lists of bytes and integers: what the numbers' bytes are. No program in sight. No statement of the seat is proved here. -/
import Derived.Test.YtlinlmimakealaaRows
import Derived.WalkKit
import Derived.WalkSpells
import Derived.WalkLawsBesides
import Derived.Lib.Hide
import Derived.Deep.QuietTactic
import Derived.BigQuiet
import Derived.Deep.LoopGhost
import Derived.Deep.AppendLies
import Derived.Maps.AppendAt
import Derived.ProofKit
import Derived.OpenShut
import Derived.Deep.Slices
namespace Go.Proofs.Ytlinlmimakealaa
open Go.RowKit

/-- A byte as a value. -/
def bv (u : UInt8) : Value := .int .u8 (u.toNat : Int)
/-- The bytes of a text as values. -/
def bvs (bs : List UInt8) : List Value := bs.map bv

theorem bvs_length (bs : List UInt8) : (bvs bs).length = bs.length := by simp [bvs]
theorem bvs_append (a b : List UInt8) : bvs (a ++ b) = bvs a ++ bvs b := by simp [bvs]
theorem bvs_get (bs : List UInt8) (k : Nat) (h : k < bs.length) : (bvs bs)[k]? = some (bv bs[k]) := by simp [bvs, h]
theorem bvs_one (bs : List UInt8) : ∀ u ∈ bvs bs, u.oneCell' = true := by
  intro u hu
  obtain ⟨x, _, rfl⟩ := List.mem_map.1 hu
  rfl

/-- The address A, below block B, reads n elements of 'size' cells each: the cells xs. -/
def Rd (w : World) (B : Nat) (A : Option Addr) (size n : Nat) (xs : List Value) : Prop :=
  xs.length = n * size ∧ (0 < n → ∃ b o, A = some ⟨b, o, none⟩ ∧ b < B ∧ ∀ j u, xs[j]? = some u → w.cell? ⟨b, o + j, none⟩ = some u)

section
variable {w w' : World} {B B' size n : Nat} {A : Option Addr} {xs : List Value}

theorem Rd.nil : Rd w B A size 0 [] := ⟨by simp, fun h => absurd h (by omega)⟩

theorem Rd.keep (h : Rd w B A size n xs) (hk : ∀ p : Addr, p.block < B → w'.cell? p = w.cell? p) : Rd w' B A size n xs :=
  ⟨h.1, fun hn => by
    obtain ⟨b, o, e, hb, hc⟩ := h.2 hn
    exact ⟨b, o, e, hb, fun j u hu => (hk ⟨b, o + j, none⟩ hb).trans (hc j u hu)⟩⟩
theorem Rd.more (h : Rd w B A size n xs) (hB : B ≤ B') : Rd w B' A size n xs :=
  ⟨h.1, fun hn => by
    obtain ⟨b, o, e, hb, hc⟩ := h.2 hn
    exact ⟨b, o, e, by omega, hc⟩⟩
theorem Rd.below (h : Rd w B A size n xs) (hb : Below B w w') : Rd w' B A size n xs := h.keep fun _ hp => hb.cell hp
theorem Rd.drew (h : Rd w B A size n xs) : Rd w.drew B A size n xs := h
theorem Rd.drewN (h : Rd w B A size n xs) (k : Nat) : Rd (w.drewN k) B A size n xs := h
theorem Rd.alloc (h : Rd w B A size n xs) (hB : B ≤ w.heap.size) (o : Obj) : Rd (w.alloc o) B A size n xs :=
  h.below ((Below.refl _ _).alloc hB o)
theorem Rd.setCell (h : Rd w B A size n xs) {p : Addr} (hB : B ≤ p.block) (u : Value) : Rd (w.setCell p u) B A size n xs :=
  h.below ((Below.refl _ _).setCell hB u)
theorem Rd.grown (h : Rd w B A size n xs) {row : Option Nat} (hg : w.grownBy w' row) (hB : B ≤ w.heap.size) (hr : ∀ g, row = some g → B ≤ g) : Rd w' B A size n xs :=
  h.below ((Below.refl _ _).grown hg hB hr)
theorem Rd.len (h : Rd w B A size n xs) : xs.length = n * size := h.1
/-- The first elements alone. -/
theorem Rd.take (h : Rd w B A size n xs) {k : Nat} (hk : k ≤ n) : Rd w B A size k (xs.take (k * size)) := by
  refine ⟨by rw [List.length_take, h.1]; exact Nat.min_eq_left (Nat.mul_le_mul_right _ hk), fun h0 => ?_⟩
  obtain ⟨b, o, e, hb, hc⟩ := h.2 (by omega)
  refine ⟨b, o, e, hb, fun j u hu => hc j u ?_⟩
  rw [List.getElem?_take] at hu
  split at hu
  · exact hu
  · cases hu
/-- The elements from some place on, as the model cuts a slice: at the end of the capacity the address stays. -/
theorem Rd.drop (h : Rd w B A size n xs) {k cap : Nat} (hk : k ≤ n) (hc : n ≤ cap) :
    Rd w B (if cap = k then A else A.map (·.add (k * size))) size (n - k) (xs.drop (k * size)) := by
  refine ⟨by rw [List.length_drop, h.1, Nat.sub_mul], fun hn => ?_⟩
  obtain ⟨b, o, rfl, hb, hcell⟩ := h.2 (by omega)
  rw [if_neg (by omega)]
  refine ⟨b, o + k * size, by simp [Addr.add_lit], hb, fun j u hu => ?_⟩
  rw [Nat.add_assoc]
  exact hcell _ u (by rw [← hu, List.getElem?_drop])
end

/-- What a row of the call's own reads as. -/
theorem Rd.of_own {w : World} {base : Nat} {e : TypeId} {size n c : Nat} {A : Option Addr} {xs : List Value} (h : w.ownsRow base e size (.slice A n c) n xs) : Rd w w.heap.size A size n xs := by
  refine ⟨h.1, fun hn => ?_⟩
  rcases h.2 with ⟨_, h0⟩ | ⟨g, cap, cur, hv, _, hg, _, _, _, _⟩
  · omega
  · have hA : A = some ⟨g, 0, none⟩ := by injection hv
    subst hA
    refine ⟨g, 0, rfl, (Array.getElem?_eq_some_iff.1 hg).1, fun j u hu => ?_⟩
    have := h.cells (g := g) rfl j u hu
    simpa [Addr.add_lit] using this

/-- The value of a row of the call's own is a slice. -/
theorem own_form {w : World} {base : Nat} {e : TypeId} {size n : Nat} {v : Value} {xs : List Value} (h : w.ownsRow base e size v n xs) :
    ∃ A c, v = .slice A n c ∧ n ≤ c ∧ c ≤ maxLen ∧ (A = none ↔ v = .slice none 0 0) ∧ (∀ a, A = some a → base ≤ a.block ∧ a.block < w.heap.size ∧ a = ⟨a.block, 0, none⟩) := by
  rcases h.2 with ⟨rfl, rfl⟩ | ⟨g, cap, cur, rfl, hb, hg, hn, hm, _, _⟩
  · exact ⟨none, 0, rfl, Nat.le_refl _, by unfold maxLen; omega, by simp, by simp⟩
  · refine ⟨_, _, rfl, hn, hm, by simp, ?_⟩
    intro a ha
    injection ha with ha
    subst ha
    exact ⟨hb, (Array.getElem?_eq_some_iff.1 hg).1, rfl⟩

/-- A row of bytes of the call's own. -/
def OB (w : World) (base : Nat) (v : Value) (bs : List UInt8) : Prop := w.ownsRow base 5 1 v bs.length (bvs bs)
/-- A slice of bytes that is read: below block B. -/
def RB (w : World) (B : Nat) (A : Option Addr) (bs : List UInt8) : Prop := Rd w B A 1 bs.length (bvs bs)

theorem OB.form {w : World} {base : Nat} {v : Value} {bs : List UInt8} (h : OB w base v bs) :
    ∃ A c, v = .slice A bs.length c ∧ bs.length ≤ c ∧ c ≤ maxLen ∧ RB w w.heap.size A bs ∧ (∀ a, A = some a → base ≤ a.block ∧ a.block < w.heap.size ∧ a = ⟨a.block, 0, none⟩) := by
  obtain ⟨A, c, rfl, h1, h2, _, h4⟩ := own_form h
  exact ⟨A, c, rfl, h1, h2, Rd.of_own h, h4⟩

theorem RB.at_ {w : World} {B : Nat} {A : Option Addr} {bs : List UInt8} (h : RB w B A bs) {k : Nat} (hk : k < bs.length) :
    ∃ b o, A = some ⟨b, o, none⟩ ∧ b < B ∧ w.cell? ⟨b, o + k, none⟩ = some (.int .u8 (bs[k].toNat : Int)) := by
  obtain ⟨b, o, e, hb, hc⟩ := h.2 (by omega)
  exact ⟨b, o, e, hb, hc k _ (bvs_get bs k hk)⟩
theorem RB.all {w : World} {B : Nat} {A : Option Addr} {bs : List UInt8} (h : RB w B A bs) (h0 : 0 < bs.length) :
    ∃ b o, A = some ⟨b, o, none⟩ ∧ b < B ∧ ∀ k (hk : k < bs.length), w.cell? ⟨b, o + k, none⟩ = some (.int .u8 (bs[k].toNat : Int)) := by
  obtain ⟨b, o, e, hb, hc⟩ := h.2 h0
  exact ⟨b, o, e, hb, fun k hk => hc k _ (bvs_get bs k hk)⟩
theorem RB.nil_ {w : World} {B : Nat} {A : Option Addr} : RB w B A [] := Rd.nil
theorem RB.take {w : World} {B : Nat} {A : Option Addr} {bs : List UInt8} (h : RB w B A bs) {k : Nat} (hk : k ≤ bs.length) : RB w B A (bs.take k) := by
  have := Rd.take h hk
  unfold RB
  rw [List.length_take, Nat.min_eq_left hk]
  simpa [bvs, List.map_take] using this
theorem RB.first {w : World} {B : Nat} {A : Option Addr} {bs : List UInt8} (h : RB w B A bs) (k : Nat) : RB w B A (bs.take k) := by
  by_cases hk : k ≤ bs.length
  · exact h.take hk
  · rw [List.take_of_length_le (by omega)]; exact h
theorem RB.drop {w : World} {B : Nat} {A : Option Addr} {bs : List UInt8} (h : RB w B A bs) {k cap : Nat} (hk : k ≤ bs.length) (hc : bs.length ≤ cap) :
    RB w B (if cap = k then A else A.map (·.add k)) (bs.drop k) := by
  have := Rd.drop h hk hc
  unfold RB
  rw [List.length_drop]
  simpa [bvs, List.map_drop] using this
theorem RB.below {w w' : World} {B : Nat} {A : Option Addr} {bs : List UInt8} (h : RB w B A bs) (hb : Below B w w') : RB w' B A bs := Rd.below h hb
theorem RB.more {w : World} {B B' : Nat} {A : Option Addr} {bs : List UInt8} (h : RB w B A bs) (hB : B ≤ B') : RB w B' A bs := Rd.more h hB
theorem RB.alloc {w : World} {B : Nat} {A : Option Addr} {bs : List UInt8} (h : RB w B A bs) (hB : B ≤ w.heap.size) (o : Obj) : RB (w.alloc o) B A bs := Rd.alloc h hB o

/-- What a call answers, by its parts. -/
theorem ret_bool {a b : Bool} (h : a = b) : Ending.returned (.bool a) = .returned (.bool b) := by rw [h]
theorem ret_int_bool {k : IntKind} {a b : Int} {x y : Bool} (h : a = b) (g : x = y) : Ending.returned (.tuple #[.int k a, .bool x]) = .returned (.tuple #[.int k b, .bool y]) := by rw [h, g]
theorem ret_int {k : IntKind} {a b : Int} (h : a = b) : Ending.returned (.int k a) = .returned (.int k b) := by rw [h]

/-! ### append -/
theorem app_of_nil {P : Program} (w : World) (base : Nat) (t ty e : TypeId) (i : TypeInfo) (size : Nat) (ht : P.underlying t = some (.slice e)) (hi : P.info? e = some i)
    (v : Value) (n : Nat) (xs : List Value) (hown : w.ownsRow base e size v n xs) (c : Nat) : (Builtin.append_ #[t, t] ty #[v, .slice none 0 c]).run P w = .ok v w := by
  rcases hown.2 with ⟨rfl, rfl⟩ | ⟨g, cap, cur, rfl, _, _, hnc, _⟩
  · simp [Builtin.append_, run_underlying ht, sizeOf, typeInfo, hi, Builtin.lenOf, Builtin.firstCells]
  · simp [Builtin.append_, run_underlying ht, sizeOf, typeInfo, hi, Builtin.lenOf, Builtin.firstCells, hnc, storeCells]

/-- 'append' onto a row of the call's own, out of whatever slice. -/
theorem app_any {P : Program} (w : World) (base : Nat) (t ty e : TypeId) (i : TypeInfo) (z : Value) (size bytes : Nat) (ht : P.underlying t = some (.slice e)) (hi : P.info? e = some i) (hz : i.zero = some z)
    (hsize : i.size = size) (hby : i.bytes = bytes) (hzs : z.cells.size = size) (hsz : 0 < size)
    (v : Value) (n : Nat) (xs : List Value) (hown : w.ownsRow base e size v n xs)
    (B : Nat) (A : Option Addr) (m c : Nat) (news : List Value) (hr : Rd w B A size m news) (h1 : ∀ u ∈ news, u.oneCell' = true)
    (h63 : n + m ≤ maxLen) (hbytes : (n + m) * bytes ≤ 140737488355328) (hbase : base ≤ w.heap.size) :
    ∃ v' w', (Builtin.append_ #[t, t] ty #[v, .slice A m c]).run P w = .ok v' w' ∧ w'.ownsRow base e size v' (n + m) (xs ++ news) ∧ w.grownBy w' v.ownBlock ∧
      (v'.ownBlock = v.ownBlock ∨ v'.ownBlock = some w.heap.size) := by
  by_cases hm : m = 0
  · subst hm
    have hn : news = [] := List.eq_nil_of_length_eq_zero (by simpa using hr.1)
    subst hn
    rcases A with _ | ad
    · exact ⟨v, w, app_of_nil w base t ty e i size ht hi v n xs hown c, by simpa using hown, World.grownBy.refl w _, .inl rfl⟩
    · obtain ⟨v', w', hrun, h2, h3, _, h5⟩ := run_append_own_at (P := P) w base t ty e i z size bytes ht hi hz hsize hby hzs hsz v n xs hown ad 0 c [] (by simp) (by simp) (by simp) h63 hbytes hbase
      exact ⟨v', w', hrun, h2, h3, h5⟩
  · obtain ⟨b, o, rfl, _, hc⟩ := hr.2 (by omega)
    obtain ⟨v', w', hrun, h2, h3, _, h5⟩ := run_append_own_at (P := P) w base t ty e i z size bytes ht hi hz hsize hby hzs hsz v n xs hown ⟨b, o, none⟩ m c news hr.1
      (fun j u hu => by simpa [Addr.add_lit] using hc j u hu) h1 h63 hbytes hbase
    exact ⟨v', w', hrun, h2, h3, h5⟩

theorem wpList_app {P : Program} {w : World} {ops : Array Oper} {rest : List Oper} {o : Oper} {a : Act} {Q : Exit → Act → World → Prop} (hgd : o.guard = none) (s x : Operand) (t : TypeId)
    (ho : o.op = .call { callee := .builtin .append, args := #[s, x], argTypes := #[t, t] })
    (base : Nat) (e : TypeId) (i : TypeInfo) (z : Value) (size bytes : Nat) (ht : P.underlying t = some (.slice e)) (hi : P.info? e = some i) (hz : i.zero = some z)
    (hsize : i.size = size) (hby : i.bytes = bytes) (hzs : z.cells.size = size) (hsz : 0 < size)
    (v : Value) (n : Nat) (xs : List Value) (hs : a.eval s = v) (hown : w.ownsRow base e size v n xs)
    (B : Nat) (A : Option Addr) (m c : Nat) (news : List Value) (hx : a.eval x = .slice A m c) (hr : Rd w B A size m news) (h1 : ∀ u ∈ news, u.oneCell' = true)
    (h63 : n + m ≤ maxLen) (hbytes : (n + m) * bytes ≤ 140737488355328) (hbase : base ≤ w.heap.size)
    (h : ∀ v' w', w'.ownsRow base e size v' (n + m) (xs ++ news) → w.grownBy w' v.ownBlock → (v'.ownBlock = v.ownBlock ∨ v'.ownBlock = some w.heap.size) → wpList P ops Q rest (a.put o.dst v') w') : wpList P ops Q (o :: rest) a w := by
  refine wpList_plain hgd fun K hK => ?_
  obtain ⟨v', w', hrun, h2, h3, h4⟩ := app_any (P := P) w base t o.type e i z size bytes ht hi hz hsize hby hzs hsz v n xs hown B A m c news hr h1 h63 hbytes hbase
  unfold Oper.wp execOp
  simp only [ho, resolve, invoke, builtin, Sem.run_bind, Sem.run_pure, Result.andThen_ok, List.map_toArray, List.map_cons, List.map_nil, hs, hx, hrun]
  exact hK _ _ (h v' w' h2 h3 h4)

theorem eq_nilB (w : World) (A : Option Addr) (n c : Nat) : (binOp .eql 22 (.slice A n c) (.slice none 0 0)).run Try.prog w = .ok (.bool A.isNone) w :=
  Lib.run_eql_slice_nil w 22 5 A n c 0 0 Try.underlying22

theorem byte_info : (Try.prog.info? 5).map (fun i => (i.zero, i.size, i.bytes)) = some (some (.int .u8 0), 1, 1) := by kernel_rfl

/-- 'append(out, x)' and 'append(out, xs...)' at bytes, onto a row of the call's own. -/
theorem wpList_appB {w : World} {ops : Array Oper} {rest : List Oper} {o : Oper} {a : Act} {Q : Exit → Act → World → Prop} (hgd : o.guard = none) (s x : Operand)
    (ho : o.op = .call { callee := .builtin .append, args := #[s, x], argTypes := #[22, 22] })
    (base : Nat) (v : Value) (bs : List UInt8) (hs : a.eval s = v) (hown : OB w base v bs)
    (B : Nat) (A : Option Addr) (c : Nat) (news : List UInt8) (m : Nat) (hm : m = news.length) (hx : a.eval x = .slice A m c) (hr : RB w B A news)
    (h63 : bs.length + news.length ≤ 140737488355328) (hbase : base ≤ w.heap.size)
    (h : ∀ v' w', OB w' base v' (bs ++ news) → Below base w w' → w.grownBy w' v.ownBlock → (v'.ownBlock = v.ownBlock ∨ v'.ownBlock = some w.heap.size) → wpList Try.prog ops Q rest (a.put o.dst v') w') : wpList Try.prog ops Q (o :: rest) a w := by
  subst hm
  obtain ⟨i0, hi, hz, h1, h2⟩ := info_parts byte_info
  refine wpList_app hgd s x _ ho base 5 i0 _ 1 1 Try.underlying22 hi hz h1 h2 rfl (by omega) v bs.length (bvs bs) hs hown B A news.length c (bvs news) hx hr (bvs_one news) (by unfold maxLen; omega) (by omega) hbase ?_
  intro v' w' h3 h4 h5
  exact h v' w' (by unfold OB; rw [List.length_append, bvs_append]; exact h3) ((Below.refl _ _).grown h4 hbase (fun k hk => (hown.lt k hk).1)) h4 h5

/-- A block that the call has just laid, known whole: it reads as its bytes. -/
theorem RB.lit (w : World) (t : TypeId) (cs : Array Value) (bs : List UInt8) (h : cs = (bvs bs).toArray) : RB (w.alloc (.cells cs t)) (w.heap.size + 1) (some ⟨w.heap.size, 0, none⟩) bs := by
  subst h
  refine ⟨by simp [bvs], fun _ => ⟨_, _, rfl, by omega, fun j u hu => ?_⟩⟩
  rw [cell_of_row _ _ (0 + j) (bvs bs).toArray t (0, 0) (heap_alloc_new w _)]
  simpa using hu
theorem below_drewN {B : Nat} {a w : World} (h : Below B a w) (n : Nat) : Below B a (w.drewN n) := ⟨h.os, h.tape, h.output, h.size, h.block⟩

theorem OB.alloc {w : World} {base : Nat} {v : Value} {bs : List UInt8} (h : OB w base v bs) (o : Obj) : OB (w.alloc o) base v bs := World.ownsRow.alloc h o
theorem OB.nil (w : World) (base : Nat) : OB w base (.slice none 0 0) [] := World.ownsRow_nil _ _ _ _

/-- 'append(out, x)': one byte, which the translation lays in a new block first. -/
theorem wpList_app1 {w : World} {ops : Array Oper} {rest : List Oper} {o : Oper} {a : Act} {Q : Exit → Act → World → Prop} (hgd : o.guard = none) (s x : Operand)
    (ho : o.op = .call { callee := .builtin .append, args := #[s, x], argTypes := #[22, 22] })
    (base : Nat) (v : Value) (bs : List UInt8) (hs : a.eval s = v) (z : Int) (hx : a.eval x = .slice (some ⟨w.heap.size, 0, none⟩) 1 1) (hown : OB w base v bs)
    (u : UInt8) (hu : (u.toNat : Int) = z)
    (h63 : bs.length + 1 ≤ 140737488355328) (hbase : base ≤ w.heap.size)
    (h : ∀ v' w', OB w' base v' (bs ++ [u]) → Below base w w' → wpList Try.prog ops Q rest (a.put o.dst v') w') : wpList Try.prog ops Q (o :: rest) a (w.alloc (.cells #[.int .u8 z] 5)) := by
  refine wpList_appB hgd s x ho base v bs hs (hown.alloc _) (w.heap.size + 1) (some ⟨w.heap.size, 0, none⟩) 1 [u] 1 rfl hx ?_ h63 (by simp; omega) ?_
  · refine ⟨rfl, fun _ => ⟨_, _, rfl, by omega, fun j q hq => ?_⟩⟩
    match j, hq with
    | 0, hq => simp [bvs, bv] at hq; subst hq; subst hu; simp
    | j + 1, hq => simp [bvs] at hq
  · intro v' w' h1 h2 _ _
    exact h v' w' h1 (((Below.refl _ _).alloc hbase _).trans h2)

end Go.Proofs.Ytlinlmimakealaa

namespace Go.Proofs.Ytlinlmimakealaa
open Go.RowKit

theorem i64_bounds {n : Int} (h : (Lit.int .i64 n).wf = true) : -9223372036854775808 ≤ n ∧ n ≤ 9223372036854775807 := by
  simp [Lit.wf, IntKind.min, IntKind.max, IntKind.signed, IntKind.bits] at h
  exact ⟨by omega, by omega⟩
theorem u32_bounds {n : Int} (h : (Lit.int .u32 n).wf = true) : ∃ X : Nat, n = X ∧ X < 4294967296 := by
  simp [Lit.wf, IntKind.min, IntKind.max, IntKind.signed, IntKind.bits] at h
  exact ⟨n.toNat, by omega, by omega⟩
theorem u8_bounds {n : Int} (h : (Lit.int .u8 n).wf = true) : 0 ≤ n ∧ n < 256 := by
  simp [Lit.wf, IntKind.min, IntKind.max, IntKind.signed, IntKind.bits] at h
  exact ⟨by omega, by omega⟩

/-- A slice of bytes that came in reads as a list of bytes. -/
theorem rb_of_row {w : World} {a : Option Addr} {len cap : Nat} {zs : List Int}
    (h : (a = none ∧ len = 0 ∧ cap = 0 ∧ zs = []) ∨
      ∃ x, a = some x ∧ len ≤ cap ∧ cap ≤ maxLen ∧ zs.length = cap ∧ (∀ i, i < zs.length → w.cell? (x.add i) = some (.int .u8 (zs.getD i 0))) ∧ ∀ n ∈ zs, (Lit.int .u8 n).wf = true) :
    ∃ bs : List UInt8, len = bs.length ∧ RB w w.heap.size a bs ∧ bs.length ≤ cap ∧ cap ≤ maxLen ∧ (a = none → cap = 0) := by
  rcases h with ⟨rfl, rfl, rfl, rfl⟩ | ⟨x, rfl, hl, hm, hz, hcell, hwf⟩
  · exact ⟨[], rfl, RB.nil_, Nat.le_refl _, by unfold maxLen; omega, fun _ => rfl⟩
  · have hlen : ((zs.take len).map fun z => UInt8.ofNat z.toNat).length = len := by simp; omega
    refine ⟨(zs.take len).map fun z => UInt8.ofNat z.toNat, hlen.symm, ⟨by simp [bvs], fun h0 => ?_⟩, by omega, hm, fun h => by cases h⟩
    rw [hlen] at h0
    obtain ⟨b, off, spot⟩ := x
    have hc0 := hcell 0 (by omega)
    have hspot : spot = none := by simpa [Addr.add] using World.cell?_spot hc0
    subst hspot
    have hlt := World.block_lt_of_cell? w _ hc0
    refine ⟨b, off, rfl, by simpa [Addr.add] using hlt, fun j u hu => ?_⟩
    rw [bvs, List.map_map, List.getElem?_map] at hu
    by_cases hj : j < len
    · rw [List.getElem?_take, if_pos hj, List.getElem?_eq_getElem (by omega)] at hu
      simp only [Option.map_some, Option.some.injEq, Function.comp] at hu
      have hc := hcell j (by omega)
      rw [Addr.add_lit, List.getD_eq_getElem?_getD, List.getElem?_eq_getElem (by omega)] at hc
      rw [hc, ← hu]
      have hb := u8_bounds (hwf zs[j] (List.getElem_mem _))
      simp only [Option.getD_some, bv, Option.some.injEq, Value.int.injEq, true_and]
      rw [UInt8.toNat_ofNat', Nat.mod_eq_of_lt (by omega)]
      omega
    · rw [List.getElem?_eq_none (by rw [List.length_take]; omega)] at hu
      cases hu

open Go.ChangeShapes Go.WideShapes Go.ChangeAt
set_option maxRecDepth 8000 in
/-- An argument that is a slice of bytes. -/
theorem open_bytes {H : Type} {enc : TypeId × Value → H} {W : World} {b0 base : Nat} {v : Value} {d : DataW H} {p : List MemPlace} {spare : Nat → Bool} {held : Bool}
    (hv : Value.okWide Try.prog W .any b0 22 v) (h : DataW.Trod enc Try.prog W base spare held 22 v d p) (hs : ∀ b, spare b = true) :
    ∃ (a : Option Addr) (bs : List UInt8) (c : Nat), v = .slice a bs.length c ∧ RB W W.heap.size a bs ∧ bs.length ≤ c ∧ c ≤ maxLen ∧ (a = none → c = 0) := by
  obtain ⟨a, len, cap, rfl⟩ := okWide_slice Try.underlying22 hv
  obtain ⟨fuel, hf⟩ := h
  have hrow : ∃ zs, (a = none ∧ len = 0 ∧ cap = 0 ∧ zs = []) ∨
      ∃ x, a = some x ∧ len ≤ cap ∧ cap ≤ maxLen ∧ zs.length = cap ∧ (∀ i, i < zs.length → W.cell? (x.add i) = some (.int .u8 (zs.getD i 0))) ∧ ∀ n ∈ zs, (Lit.int .u8 n).wf = true := by
    rcases open_ints Try.underlying22 Try.underlying5 (by kernel_rfl) hf with ⟨hcs, _⟩ | ⟨x, l, c, zs, hcs, _, hl, hm, hz, _, hcell, hwz⟩
    · simp [Value.cells] at hcs
      obtain ⟨rfl, rfl, rfl⟩ := hcs
      exact ⟨[], .inl ⟨rfl, rfl, rfl, rfl⟩⟩
    · simp [Value.cells] at hcs
      obtain ⟨rfl, rfl, rfl⟩ := hcs
      exact ⟨zs, .inr ⟨_, rfl, hl, hm, by simpa [hs] using hz, hcell, hwz⟩⟩
  obtain ⟨zs, hz⟩ := hrow
  obtain ⟨bs, rfl, hr, hc, hm, hn⟩ := rb_of_row hz
  exact ⟨a, bs, cap, rfl, hr, hc, hm, hn⟩
theorem u8_nat {n : Int} (h : (Lit.int .u8 n).wf = true) : ∃ X : UInt8, n = (X.toNat : Int) := by
  have := u8_bounds h
  refine ⟨UInt8.ofNat n.toNat, ?_⟩
  rw [UInt8.toNat_ofNat', Nat.mod_eq_of_lt (by omega)]
  omega

end Go.Proofs.Ytlinlmimakealaa

namespace Go.Proofs.Ytlinlmimakealaa
open Go.RowKit
open Go.ChangeShapes Go.WideShapes Go.ChangeAt

set_option maxRecDepth 8000 in
theorem trod_bytes {H : Type} {enc : TypeId × Value → H} {W : World} {base fuel : Nat} {cs : List Value} {x : DataW H × List MemPlace} {spare : Nat → Bool} {held : Bool}
    (hf : DataW.trod enc Try.prog W base spare held fuel 22 cs = some x) (hs : ∀ b, spare b = true) :
    ∃ (a : Option Addr) (bs : List UInt8) (c : Nat), cs = [.slice a bs.length c] ∧ RB W W.heap.size a bs ∧ bs.length ≤ c ∧ c ≤ maxLen ∧ (a = none → c = 0) := by
  rcases open_ints Try.underlying22 Try.underlying5 (by kernel_rfl) hf with ⟨hcs, _⟩ | ⟨x, l, c, zs, hcs, _, hl, hm, hz, _, hcell, hwz⟩
  · obtain ⟨bs, hb, h1, h2, h3, h4⟩ := rb_of_row (w := W) (a := none) (len := 0) (cap := 0) (zs := []) (.inl ⟨rfl, rfl, rfl, rfl⟩)
    exact ⟨none, bs, 0, by rw [hcs, ← hb], h1, h2, h3, h4⟩
  · obtain ⟨bs, hb, h1, h2, h3, h4⟩ := rb_of_row (w := W) (a := some x) (len := l) (cap := c) (zs := zs) (.inr ⟨x, rfl, hl, hm, by simpa [hs] using hz, hcell, hwz⟩)
    exact ⟨some x, bs, c, by rw [hcs, ← hb], h1, h2, h3, h4⟩

/-- A slice of slices of bytes that is read. -/
def Parts (w : World) (B : Nat) (A : Option Addr) (L : List (List UInt8)) : Prop :=
  0 < L.length → ∃ b o, A = some ⟨b, o, none⟩ ∧ b < B ∧ ∀ k (h : k < L.length), ∃ Ak ck, w.cell? ⟨b, o + k, none⟩ = some (.slice Ak (L[k]).length ck) ∧ RB w B Ak L[k] ∧ (L[k]).length ≤ ck ∧ ck ≤ maxLen ∧ (Ak = none → ck = 0)
theorem Parts.below {w w' : World} {B : Nat} {A : Option Addr} {L : List (List UInt8)} (h : Parts w B A L) (hb : Below B w w') : Parts w' B A L := by
  intro h0
  obtain ⟨b, o, e, hlt, hk⟩ := h h0
  refine ⟨b, o, e, hlt, fun k hk2 => ?_⟩
  obtain ⟨Ak, ck, h1, h2, h3⟩ := hk k hk2
  exact ⟨Ak, ck, (hb.cell (p := ⟨b, o + k, none⟩) hlt).trans h1, h2.below hb, h3⟩

theorem choose_list {α : Type} {n : Nat} {p : Nat → α → Prop} (h : ∀ i, i < n → ∃ a, p i a) : ∃ L : List α, L.length = n ∧ ∀ i (hi : i < L.length), p i L[i] := by
  induction n with
  | zero => exact ⟨[], rfl, fun i hi => by simp at hi⟩
  | succ n ih =>
    obtain ⟨L, hL, hp⟩ := ih (fun i hi => h i (by omega))
    obtain ⟨a, ha⟩ := h n (by omega)
    refine ⟨L ++ [a], by simp [hL], fun i hi => ?_⟩
    by_cases hi2 : i < L.length
    · rw [List.getElem_append_left hi2]; exact hp i hi2
    · have e : i = n := by simp at hi; omega
      subst e
      rw [List.getElem_append_right (by omega)]
      simpa [hL] using ha

set_option maxRecDepth 8000 in
theorem open_parts {H : Type} {enc : TypeId × Value → H} {W : World} {b0 base : Nat} {v : Value} {d : DataW H} {p : List MemPlace} {spare : Nat → Bool} {held : Bool} {T : TypeId}
    (hT : Try.prog.underlying T = some (.slice 22)) (hv : Value.okWide Try.prog W .any b0 T v) (h : DataW.Trod enc Try.prog W base spare held T v d p) (hs : ∀ b, spare b = true) :
    ∃ (a : Option Addr) (L : List (List UInt8)) (c : Nat), v = .slice a L.length c ∧ Parts W W.heap.size a L ∧ L.length ≤ c ∧ c ≤ maxLen := by
  obtain ⟨a, len, cap, rfl⟩ := okWide_slice hT hv
  obtain ⟨fuel, hf⟩ := h
  rcases Deep.open_slice1 hT (by kernel_rfl) hf with ⟨hcs, _⟩ | ⟨x, l, c, m, n, V, D, Pl, hcs, _, hl, hm, hmm, _, hx⟩
  · simp [Value.cells] at hcs
    obtain ⟨rfl, rfl, rfl⟩ := hcs
    exact ⟨none, [], 0, rfl, fun h0 => by simp at h0, Nat.le_refl _, by unfold maxLen; omega⟩
  · simp [Value.cells] at hcs
    obtain ⟨rfl, rfl, rfl⟩ := hcs
    have hmc : m = cap := by rw [hmm, hs]; rfl
    have hel : ∀ i, i < len → ∃ bs : List UInt8, ∃ Ak ck, V i = .slice Ak bs.length ck ∧ RB W W.heap.size Ak bs ∧ bs.length ≤ ck ∧ ck ≤ maxLen ∧ (Ak = none → ck = 0) := by
      intro i hi
      obtain ⟨_, ht⟩ := hx i (by omega)
      obtain ⟨Ak, bs, ck, e, h1, h2, h3, h4⟩ := trod_bytes ht hs
      injection e with e
      exact ⟨bs, Ak, ck, e, h1, h2, h3, h4⟩
    obtain ⟨L, hL, hp⟩ := choose_list hel
    refine ⟨some x, L, cap, by rw [hL], fun h0 => ?_, by omega, hm⟩
    rw [hL] at h0
    obtain ⟨hc0, _⟩ := hx 0 (by omega)
    obtain ⟨b, off, spot⟩ := x
    have hspot : spot = none := by simpa [Addr.add] using World.cell?_spot hc0
    subst hspot
    have hlt := World.block_lt_of_cell? W _ hc0
    refine ⟨b, off, rfl, by simpa [Addr.add] using hlt, fun k hk => ?_⟩
    obtain ⟨Ak, ck, e, h1⟩ := hp k hk
    obtain ⟨hck, _⟩ := hx k (by omega)
    rw [Addr.add_lit, e] at hck
    exact ⟨Ak, ck, hck, h1⟩
end Go.Proofs.Ytlinlmimakealaa

namespace Go.Proofs.Ytlinlmimakealaa

/-- A width. -/
def isW (width : Int) : Bool := decide (width = 1 ∨ width = 2 ∨ width = 4 ∨ width = 8)
/-- A number fits a width. -/
def fitsB (n width : Int) : Bool := decide (0 ≤ n ∧ (width = 8 ∨ (width = 4 ∧ n < 4294967296) ∨ (width = 2 ∧ n < 65536) ∨ (width = 1 ∧ n < 256)))
/-- The least bytes of a number. -/
def leB (n : Nat) : Nat → List UInt8
  | 0 => []
  | k + 1 => UInt8.ofNat (n % 256) :: leB (n / 256) k
theorem leB_length (n k : Nat) : (leB n k).length = k := by
  induction k generalizing n with
  | zero => rfl
  | succ k ih => simp [leB, ih]
/-- Bytes, and a number behind them. -/
def putB (bs : List UInt8) (n width : Int) : List UInt8 := bs ++ if fitsB n width then leB n.toNat width.toNat else []

theorem leB_snoc (n k : Nat) : leB n (k + 1) = leB n k ++ [UInt8.ofNat (n / 256 ^ k % 256)] := by
  induction k generalizing n with
  | zero => simp [leB]
  | succ k ih =>
    rw [leB, ih, leB, List.cons_append, Nat.div_div_eq_div_mul, Nat.pow_succ, Nat.mul_comm 256]

theorem fits_width {n width : Int} (h : fitsB n width = true) : width = 8 ∨ width = 4 ∨ width = 2 ∨ width = 1 := by
  simp only [fitsB, decide_eq_true_eq] at h
  omega
theorem fits_nat {n width : Int} (h : fitsB n width = true) : 0 ≤ n := by
  simp only [fitsB, decide_eq_true_eq] at h
  omega

theorem leB_byte (n : Int) (k : Nat) (h : 0 ≤ n) : ((UInt8.ofNat (n.toNat / 256 ^ k % 256)).toNat : Int) = n / 2 ^ (8 * k) % 256 := by
  obtain ⟨m, rfl⟩ := Int.eq_ofNat_of_zero_le h
  have e : (2 : Int) ^ (8 * k) = ((256 ^ k : Nat) : Int) := by
    rw [show (256 : Nat) = 2 ^ 8 from rfl, ← Nat.pow_mul]; simp
  rw [e]
  simp

theorem putB_length (bs : List UInt8) (n x : Int) : (putB bs n x).length ≤ bs.length + 8 := by
  unfold putB
  split
  · rename_i h
    have := fits_width h
    rw [List.length_append, leB_length]
    omega
  · simp

/-- The number that bytes are, the least byte first. -/
def leVal : List UInt8 → Nat
  | [] => 0
  | u :: t => u.toNat + 256 * leVal t
theorem leVal_lt (bs : List UInt8) : leVal bs < 256 ^ bs.length := by
  induction bs with
  | nil => simp [leVal]
  | cons u t ih =>
    have := u.toNat_lt
    rw [leVal, List.length_cons, Nat.pow_succ]
    omega
theorem leVal_snoc (bs : List UInt8) (u : UInt8) : leVal (bs ++ [u]) = leVal bs + 256 ^ bs.length * u.toNat := by
  induction bs with
  | nil => simp [leVal]
  | cons x t ih =>
    rw [List.cons_append, leVal, ih, leVal, List.length_cons, Nat.pow_succ, Nat.mul_comm (256 ^ t.length) 256, Nat.mul_add, Nat.mul_assoc]
    omega
theorem leVal_leB (n k : Nat) : leVal (leB n k) = n % 256 ^ k := by
  induction k generalizing n with
  | zero => simp [leB, leVal, Nat.mod_one]
  | succ k ih =>
    rw [leB, leVal, ih, Nat.pow_succ, Nat.mul_comm (256 ^ k) 256, Nat.mod_mul]
    simp
theorem leB_leVal (bs : List UInt8) : leB (leVal bs) bs.length = bs := by
  induction bs with
  | nil => rfl
  | cons u t ih =>
    have h := u.toNat_lt
    rw [List.length_cons, leB, leVal, show (u.toNat + 256 * leVal t) % 256 = u.toNat by omega, show (u.toNat + 256 * leVal t) / 256 = leVal t by omega, ih]
    simp

/-- The number at a place, if there is one. -/
def getO (bs : List UInt8) (at_ width : Int) : Option Nat :=
  if isW width = true ∧ 0 ≤ at_ ∧ at_ + width ≤ bs.length then
    if leVal ((bs.drop at_.toNat).take width.toNat) < 9223372036854775808 then some (leVal ((bs.drop at_.toNat).take width.toNat)) else none
  else none
def getN (bs : List UInt8) (at_ width : Int) : Int := ((getO bs at_ width).getD 0 : Nat)
def getK (bs : List UInt8) (at_ width : Int) : Bool := (getO bs at_ width).isSome

theorem get_small {bs : List UInt8} {a k m : Nat} (hw : isW k = true) (hle : a + k ≤ bs.length) (hm : m = leVal ((bs.drop a).take k)) (h : m < 9223372036854775808) : getN bs a k = m ∧ getK bs a k = true := by
  have hc : isW (k : Int) = true ∧ 0 ≤ (a : Int) ∧ (a : Int) + k ≤ bs.length := ⟨hw, by omega, by omega⟩
  subst hm
  have e : getO bs a k = some (leVal ((bs.drop a).take k)) := by
    unfold getO
    rw [if_pos hc]
    simp only [Int.toNat_natCast]
    rw [if_pos h]
  exact ⟨by unfold getN; rw [e]; rfl, by unfold getK; rw [e]; rfl⟩
theorem get_large {bs : List UInt8} {a k m : Nat} (hm : m = leVal ((bs.drop a).take k)) (h : ¬ m < 9223372036854775808) : getN bs a k = 0 ∧ getK bs a k = false := by
  subst hm
  have e : getO bs a k = none := by
    unfold getO
    split
    · simp only [Int.toNat_natCast]
      rw [if_neg h]
    · rfl
  exact ⟨by unfold getN; rw [e]; rfl, by unfold getK; rw [e]; rfl⟩
theorem get_none {bs : List UInt8} {a k : Int} (h : ¬ (isW k = true ∧ 0 ≤ a ∧ a + k ≤ bs.length)) : getN bs a k = 0 ∧ getK bs a k = false := by
  have e : getO bs a k = none := by
    unfold getO
    rw [if_neg h]
  exact ⟨by unfold getN; rw [e]; rfl, by unfold getK; rw [e]; rfl⟩

theorem fits_pow {n : Int} {wd : Nat} (h : fitsB n wd = true) (h1 : n ≤ 9223372036854775807) : n.toNat < 256 ^ wd := by
  simp only [fitsB, decide_eq_true_eq] at h
  obtain ⟨h0, h⟩ := h
  have : wd = 8 ∨ wd = 4 ∨ wd = 2 ∨ wd = 1 := by omega
  rcases this with rfl | rfl | rfl | rfl <;> simp <;> omega
/-- What was put is got. -/
theorem get_put {n : Int} {wd : Nat} (h : fitsB n wd = true) (h1 : n ≤ 9223372036854775807) : getN (leB n.toNat wd) 0 wd = n ∧ getK (leB n.toNat wd) 0 wd = true := by
  have hw := fits_width h
  have hp := fits_pow h h1
  have h0 := fits_nat h
  have := get_small (bs := leB n.toNat wd) (a := 0) (k := wd) (m := n.toNat) (by simp [isW]; omega) (by rw [leB_length]; omega)
    (by rw [List.drop_zero, List.take_of_length_le (by rw [leB_length]; exact Nat.le_refl _), leVal_leB, Nat.mod_eq_of_lt hp]) (by omega)
  refine ⟨?_, this.2⟩
  have h2 := this.1
  rw [show ((0 : Nat) : Int) = 0 from rfl] at h2
  rw [h2]
  omega
theorem leB_inj {n m : Int} {wd : Nat} (h : fitsB n wd = true) (h' : fitsB m wd = true) (h1 : n ≤ 9223372036854775807) (h1' : m ≤ 9223372036854775807) : leB n.toNat wd = leB m.toNat wd ↔ n = m := by
  constructor
  · intro e
    have a := (get_put h h1).1
    have b := (get_put h' h1').1
    rw [e, b] at a
    exact a.symm
  · rintro rfl; rfl
/-- What is got and put is the same bytes. -/
theorem put_get {bs : List UInt8} {at_ x : Int} (h : getK bs at_ x = true) : ∃ a wd : Nat, at_ = a ∧ x = wd ∧ wd ≤ 8 ∧ 1 ≤ wd ∧ a + wd ≤ bs.length ∧ fitsB (getN bs at_ x) x = true ∧ leB (getN bs at_ x).toNat wd = (bs.drop a).take wd ∧ 0 ≤ getN bs at_ x ∧ getN bs at_ x ≤ 9223372036854775807 := by
  by_cases hc : isW x = true ∧ 0 ≤ at_ ∧ at_ + x ≤ bs.length
  · obtain ⟨hw, h0, hle⟩ := hc
    obtain ⟨a, rfl⟩ := Int.eq_ofNat_of_zero_le h0
    have hx : x = 1 ∨ x = 2 ∨ x = 4 ∨ x = 8 := by simpa [isW] using hw
    obtain ⟨wd, rfl⟩ : ∃ wd : Nat, x = wd := ⟨x.toNat, by omega⟩
    by_cases hs : leVal ((bs.drop a).take wd) < 9223372036854775808
    · have hg := get_small (bs := bs) (a := a) hw (by omega) rfl hs
      have hlen : ((bs.drop a).take wd).length = wd := by rw [List.length_take, List.length_drop]; omega
      have hlt := leVal_lt ((bs.drop a).take wd)
      rw [hlen] at hlt
      refine ⟨a, wd, rfl, rfl, by omega, by omega, by omega, ?_, ?_, ?_, ?_⟩
      · rw [hg.1]
        simp only [fitsB, decide_eq_true_eq]
        refine ⟨by omega, ?_⟩
        have : wd = 8 ∨ wd = 4 ∨ wd = 2 ∨ wd = 1 := by omega
        rcases this with rfl | rfl | rfl | rfl <;> simp at hlt ⊢ <;> omega
      · have := leB_leVal ((bs.drop a).take wd)
        rw [hlen] at this
        rw [hg.1]
        simpa using this
      · rw [hg.1]; omega
      · rw [hg.1]; omega
    · have hg := get_large (bs := bs) (a := a) (k := wd) rfl hs
      rw [hg.2] at h
      cases h
  · have := (get_none hc).2
    rw [this] at h
    cases h
theorem get_no {bs : List UInt8} {at_ x : Int} (h : getK bs at_ x = false) : getN bs at_ x = 0 := by
  unfold getK at h
  unfold getN
  cases hg : getO bs at_ x with
  | none => rfl
  | some m => rw [hg] at h; cases h

/-- Rounding. -/
def mayB (n to : Int) : Bool := decide (1 ≤ to ∧ to ≤ 1073741824 ∧ 0 ≤ n ∧ n ≤ 1152921504606846976)
def upN (n to : Int) : Int := if mayB n to then (n + to - 1) / to * to else n
def downN (n to : Int) : Int := if mayB n to then n / to * to else n
theorem may_iff {n to : Int} : mayB n to = true ↔ 1 ≤ to ∧ to ≤ 1073741824 ∧ 0 ≤ n ∧ n ≤ 1152921504606846976 := by simp [mayB]
theorem up_bounds {n to : Int} (h : 1 ≤ to) : n ≤ (n + to - 1) / to * to ∧ (n + to - 1) / to * to ≤ n + to - 1 := by
  have h1 := Int.emod_add_ediv_mul (n + to - 1) to
  have h2 := Int.emod_nonneg (n + to - 1) (show to ≠ 0 by omega)
  have h3 := Int.emod_lt_of_pos (n + to - 1) (show 0 < to by omega)
  omega
theorem down_bounds {n to : Int} (h : 1 ≤ to) : n - to < n / to * to ∧ n / to * to ≤ n := by
  have h1 := Int.emod_add_ediv_mul n to
  have h2 := Int.emod_nonneg n (show to ≠ 0 by omega)
  have h3 := Int.emod_lt_of_pos n (show 0 < to by omega)
  omega
theorem down_ref {n to : Int} : n / to * to = n - n % to := by
  have h1 := Int.emod_add_ediv_mul n to
  omega
theorem up_ref {n to : Int} (h : 1 ≤ to) : (n + to - 1) / to * to = if n % to = 0 then n else n - n % to + to := by
  have h1 := Int.emod_add_ediv_mul n to
  have h2 := Int.emod_nonneg n (show to ≠ 0 by omega)
  have h3 := Int.emod_lt_of_pos n (show 0 < to by omega)
  obtain ⟨r, hr⟩ : ∃ r, r = n % to := ⟨_, rfl⟩
  obtain ⟨q, hq⟩ : ∃ q, q = n / to := ⟨_, rfl⟩
  rw [← hr, ← hq] at h1
  rw [← hr] at h2 h3 ⊢
  have hn : n = r + q * to := by omega
  clear hr hq h1
  subst hn
  split
  · rename_i h0
    subst h0
    rw [show 0 + q * to + to - 1 = (to - 1) + q * to by omega, Int.add_mul_ediv_right _ _ (by omega), Int.ediv_eq_zero_of_lt (by omega) (by omega)]
    simp
  · rw [show r + q * to + to - 1 = (r - 1) + (q + 1) * to by rw [Int.add_mul]; omega, Int.add_mul_ediv_right _ _ (by omega), Int.ediv_eq_zero_of_lt (by omega) (by omega), Int.zero_add, Int.add_mul]
    omega

end Go.Proofs.Ytlinlmimakealaa
