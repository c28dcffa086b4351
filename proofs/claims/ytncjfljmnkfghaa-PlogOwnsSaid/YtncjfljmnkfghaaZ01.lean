/- Words of our own for memory: slices that read as lists, rows of the call's own, and what is kept over steps. From a row's arguments to our words: bytes, bounds. An argument that is a slice of slices of bytes. append at bytes: a text's bytes, noughts, two bytes. No statement of the seat is proved here. -/
import Derived.Test.YtncjfljmnkfghaaRows
import Derived.WalkKit
import Derived.WalkSpells
import Derived.WalkLawsBesides
import Derived.Lib.Hide
import Derived.Deep.QuietTactic
import Derived.BigQuiet
import Derived.Deep.LoopGhost
import Derived.Deep.AppendLies
import Derived.Maps.AppendAt
import Derived.ProofKit
import Derived.OpenShut
import Derived.Deep.Slices
import Derived.Lib.AppendStr
namespace Go.Proofs.Ytncjfljmnkfghaa
open Go.RowKit

/-- A byte as a value. -/
def bv (u : UInt8) : Value := .int .u8 (u.toNat : Int)
/-- The bytes of a text as values. -/
def bvs (bs : List UInt8) : List Value := bs.map bv

theorem bvs_length (bs : List UInt8) : (bvs bs).length = bs.length := by simp [bvs]
theorem bvs_append (a b : List UInt8) : bvs (a ++ b) = bvs a ++ bvs b := by simp [bvs]
theorem bvs_get (bs : List UInt8) (k : Nat) (h : k < bs.length) : (bvs bs)[k]? = some (bv bs[k]) := by simp [bvs, h]
theorem bvs_one (bs : List UInt8) : ∀ u ∈ bvs bs, u.oneCell' = true := by
  intro u hu
  obtain ⟨x, _, rfl⟩ := List.mem_map.1 hu
  rfl

/-- The address A, below block B, reads n elements of 'size' cells each: the cells xs. -/
def Rd (w : World) (B : Nat) (A : Option Addr) (size n : Nat) (xs : List Value) : Prop :=
  xs.length = n * size ∧ (0 < n → ∃ b o, A = some ⟨b, o, none⟩ ∧ b < B ∧ ∀ j u, xs[j]? = some u → w.cell? ⟨b, o + j, none⟩ = some u)

section
variable {w w' : World} {B B' size n : Nat} {A : Option Addr} {xs : List Value}

theorem Rd.nil : Rd w B A size 0 [] := ⟨by simp, fun h => absurd h (by omega)⟩

theorem Rd.keep (h : Rd w B A size n xs) (hk : ∀ p : Addr, p.block < B → w'.cell? p = w.cell? p) : Rd w' B A size n xs :=
  ⟨h.1, fun hn => by
    obtain ⟨b, o, e, hb, hc⟩ := h.2 hn
    exact ⟨b, o, e, hb, fun j u hu => (hk ⟨b, o + j, none⟩ hb).trans (hc j u hu)⟩⟩
theorem Rd.more (h : Rd w B A size n xs) (hB : B ≤ B') : Rd w B' A size n xs :=
  ⟨h.1, fun hn => by
    obtain ⟨b, o, e, hb, hc⟩ := h.2 hn
    exact ⟨b, o, e, by omega, hc⟩⟩
theorem Rd.below (h : Rd w B A size n xs) (hb : Below B w w') : Rd w' B A size n xs := h.keep fun _ hp => hb.cell hp
theorem Rd.drew (h : Rd w B A size n xs) : Rd w.drew B A size n xs := h
theorem Rd.drewN (h : Rd w B A size n xs) (k : Nat) : Rd (w.drewN k) B A size n xs := h
theorem Rd.alloc (h : Rd w B A size n xs) (hB : B ≤ w.heap.size) (o : Obj) : Rd (w.alloc o) B A size n xs :=
  h.below ((Below.refl _ _).alloc hB o)
theorem Rd.setCell (h : Rd w B A size n xs) {p : Addr} (hB : B ≤ p.block) (u : Value) : Rd (w.setCell p u) B A size n xs :=
  h.below ((Below.refl _ _).setCell hB u)
theorem Rd.grown (h : Rd w B A size n xs) {row : Option Nat} (hg : w.grownBy w' row) (hB : B ≤ w.heap.size) (hr : ∀ g, row = some g → B ≤ g) : Rd w' B A size n xs :=
  h.below ((Below.refl _ _).grown hg hB hr)
theorem Rd.len (h : Rd w B A size n xs) : xs.length = n * size := h.1
/-- The first elements alone. -/
theorem Rd.take (h : Rd w B A size n xs) {k : Nat} (hk : k ≤ n) : Rd w B A size k (xs.take (k * size)) := by
  refine ⟨by rw [List.length_take, h.1]; exact Nat.min_eq_left (Nat.mul_le_mul_right _ hk), fun h0 => ?_⟩
  obtain ⟨b, o, e, hb, hc⟩ := h.2 (by omega)
  refine ⟨b, o, e, hb, fun j u hu => hc j u ?_⟩
  rw [List.getElem?_take] at hu
  split at hu
  · exact hu
  · cases hu
/-- The elements from some place on, as the model cuts a slice: at the end of the capacity the address stays. -/
theorem Rd.drop (h : Rd w B A size n xs) {k cap : Nat} (hk : k ≤ n) (hc : n ≤ cap) :
    Rd w B (if cap = k then A else A.map (·.add (k * size))) size (n - k) (xs.drop (k * size)) := by
  refine ⟨by rw [List.length_drop, h.1, Nat.sub_mul], fun hn => ?_⟩
  obtain ⟨b, o, rfl, hb, hcell⟩ := h.2 (by omega)
  rw [if_neg (by omega)]
  refine ⟨b, o + k * size, by simp [Addr.add_lit], hb, fun j u hu => ?_⟩
  rw [Nat.add_assoc]
  exact hcell _ u (by rw [← hu, List.getElem?_drop])
end

/-- What a row of the call's own reads as. -/
theorem Rd.of_own {w : World} {base : Nat} {e : TypeId} {size n c : Nat} {A : Option Addr} {xs : List Value} (h : w.ownsRow base e size (.slice A n c) n xs) : Rd w w.heap.size A size n xs := by
  refine ⟨h.1, fun hn => ?_⟩
  rcases h.2 with ⟨_, h0⟩ | ⟨g, cap, cur, hv, _, hg, _, _, _, _⟩
  · omega
  · have hA : A = some ⟨g, 0, none⟩ := by injection hv
    subst hA
    refine ⟨g, 0, rfl, (Array.getElem?_eq_some_iff.1 hg).1, fun j u hu => ?_⟩
    have := h.cells (g := g) rfl j u hu
    simpa [Addr.add_lit] using this

/-- The value of a row of the call's own is a slice. -/
theorem own_form {w : World} {base : Nat} {e : TypeId} {size n : Nat} {v : Value} {xs : List Value} (h : w.ownsRow base e size v n xs) :
    ∃ A c, v = .slice A n c ∧ n ≤ c ∧ c ≤ maxLen ∧ (A = none ↔ v = .slice none 0 0) ∧ (∀ a, A = some a → base ≤ a.block ∧ a.block < w.heap.size ∧ a = ⟨a.block, 0, none⟩) := by
  rcases h.2 with ⟨rfl, rfl⟩ | ⟨g, cap, cur, rfl, hb, hg, hn, hm, _, _⟩
  · exact ⟨none, 0, rfl, Nat.le_refl _, by unfold maxLen; omega, by simp, by simp⟩
  · refine ⟨_, _, rfl, hn, hm, by simp, ?_⟩
    intro a ha
    injection ha with ha
    subst ha
    exact ⟨hb, (Array.getElem?_eq_some_iff.1 hg).1, rfl⟩

/-- A row of bytes of the call's own. -/
def OB (w : World) (base : Nat) (v : Value) (bs : List UInt8) : Prop := w.ownsRow base 5 1 v bs.length (bvs bs)
/-- A slice of bytes that is read: below block B. -/
def RB (w : World) (B : Nat) (A : Option Addr) (bs : List UInt8) : Prop := Rd w B A 1 bs.length (bvs bs)

theorem OB.form {w : World} {base : Nat} {v : Value} {bs : List UInt8} (h : OB w base v bs) :
    ∃ A c, v = .slice A bs.length c ∧ bs.length ≤ c ∧ c ≤ maxLen ∧ RB w w.heap.size A bs ∧ (∀ a, A = some a → base ≤ a.block ∧ a.block < w.heap.size ∧ a = ⟨a.block, 0, none⟩) := by
  obtain ⟨A, c, rfl, h1, h2, _, h4⟩ := own_form h
  exact ⟨A, c, rfl, h1, h2, Rd.of_own h, h4⟩

theorem RB.at_ {w : World} {B : Nat} {A : Option Addr} {bs : List UInt8} (h : RB w B A bs) {k : Nat} (hk : k < bs.length) :
    ∃ b o, A = some ⟨b, o, none⟩ ∧ b < B ∧ w.cell? ⟨b, o + k, none⟩ = some (.int .u8 (bs[k].toNat : Int)) := by
  obtain ⟨b, o, e, hb, hc⟩ := h.2 (by omega)
  exact ⟨b, o, e, hb, hc k _ (bvs_get bs k hk)⟩
theorem RB.all {w : World} {B : Nat} {A : Option Addr} {bs : List UInt8} (h : RB w B A bs) (h0 : 0 < bs.length) :
    ∃ b o, A = some ⟨b, o, none⟩ ∧ b < B ∧ ∀ k (hk : k < bs.length), w.cell? ⟨b, o + k, none⟩ = some (.int .u8 (bs[k].toNat : Int)) := by
  obtain ⟨b, o, e, hb, hc⟩ := h.2 h0
  exact ⟨b, o, e, hb, fun k hk => hc k _ (bvs_get bs k hk)⟩
theorem RB.nil_ {w : World} {B : Nat} {A : Option Addr} : RB w B A [] := Rd.nil
theorem RB.take {w : World} {B : Nat} {A : Option Addr} {bs : List UInt8} (h : RB w B A bs) {k : Nat} (hk : k ≤ bs.length) : RB w B A (bs.take k) := by
  have := Rd.take h hk
  unfold RB
  rw [List.length_take, Nat.min_eq_left hk]
  simpa [bvs, List.map_take] using this
theorem RB.first {w : World} {B : Nat} {A : Option Addr} {bs : List UInt8} (h : RB w B A bs) (k : Nat) : RB w B A (bs.take k) := by
  by_cases hk : k ≤ bs.length
  · exact h.take hk
  · rw [List.take_of_length_le (by omega)]; exact h
theorem RB.drop {w : World} {B : Nat} {A : Option Addr} {bs : List UInt8} (h : RB w B A bs) {k cap : Nat} (hk : k ≤ bs.length) (hc : bs.length ≤ cap) :
    RB w B (if cap = k then A else A.map (·.add k)) (bs.drop k) := by
  have := Rd.drop h hk hc
  unfold RB
  rw [List.length_drop]
  simpa [bvs, List.map_drop] using this
theorem RB.below {w w' : World} {B : Nat} {A : Option Addr} {bs : List UInt8} (h : RB w B A bs) (hb : Below B w w') : RB w' B A bs := Rd.below h hb
theorem RB.more {w : World} {B B' : Nat} {A : Option Addr} {bs : List UInt8} (h : RB w B A bs) (hB : B ≤ B') : RB w B' A bs := Rd.more h hB
theorem RB.alloc {w : World} {B : Nat} {A : Option Addr} {bs : List UInt8} (h : RB w B A bs) (hB : B ≤ w.heap.size) (o : Obj) : RB (w.alloc o) B A bs := Rd.alloc h hB o

/-- What a call answers, by its parts. -/
theorem ret_bool {a b : Bool} (h : a = b) : Ending.returned (.bool a) = .returned (.bool b) := by rw [h]
theorem ret_int_bool {k : IntKind} {a b : Int} {x y : Bool} (h : a = b) (g : x = y) : Ending.returned (.tuple #[.int k a, .bool x]) = .returned (.tuple #[.int k b, .bool y]) := by rw [h, g]
theorem ret_int {k : IntKind} {a b : Int} (h : a = b) : Ending.returned (.int k a) = .returned (.int k b) := by rw [h]

/-! ### append -/
theorem app_of_nil {P : Program} (w : World) (base : Nat) (t ty e : TypeId) (i : TypeInfo) (size : Nat) (ht : P.underlying t = some (.slice e)) (hi : P.info? e = some i)
    (v : Value) (n : Nat) (xs : List Value) (hown : w.ownsRow base e size v n xs) (c : Nat) : (Builtin.append_ #[t, t] ty #[v, .slice none 0 c]).run P w = .ok v w := by
  rcases hown.2 with ⟨rfl, rfl⟩ | ⟨g, cap, cur, rfl, _, _, hnc, _⟩
  · simp [Builtin.append_, run_underlying ht, sizeOf, typeInfo, hi, Builtin.lenOf, Builtin.firstCells]
  · simp [Builtin.append_, run_underlying ht, sizeOf, typeInfo, hi, Builtin.lenOf, Builtin.firstCells, hnc, storeCells]

/-- 'append' onto a row of the call's own, out of whatever slice. -/
theorem app_any {P : Program} (w : World) (base : Nat) (t ty e : TypeId) (i : TypeInfo) (z : Value) (size bytes : Nat) (ht : P.underlying t = some (.slice e)) (hi : P.info? e = some i) (hz : i.zero = some z)
    (hsize : i.size = size) (hby : i.bytes = bytes) (hzs : z.cells.size = size) (hsz : 0 < size)
    (v : Value) (n : Nat) (xs : List Value) (hown : w.ownsRow base e size v n xs)
    (B : Nat) (A : Option Addr) (m c : Nat) (news : List Value) (hr : Rd w B A size m news) (h1 : ∀ u ∈ news, u.oneCell' = true)
    (h63 : n + m ≤ maxLen) (hbytes : (n + m) * bytes ≤ 140737488355328) (hbase : base ≤ w.heap.size) :
    ∃ v' w', (Builtin.append_ #[t, t] ty #[v, .slice A m c]).run P w = .ok v' w' ∧ w'.ownsRow base e size v' (n + m) (xs ++ news) ∧ w.grownBy w' v.ownBlock ∧
      (v'.ownBlock = v.ownBlock ∨ v'.ownBlock = some w.heap.size) := by
  by_cases hm : m = 0
  · subst hm
    have hn : news = [] := List.eq_nil_of_length_eq_zero (by simpa using hr.1)
    subst hn
    rcases A with _ | ad
    · exact ⟨v, w, app_of_nil w base t ty e i size ht hi v n xs hown c, by simpa using hown, World.grownBy.refl w _, .inl rfl⟩
    · obtain ⟨v', w', hrun, h2, h3, _, h5⟩ := run_append_own_at (P := P) w base t ty e i z size bytes ht hi hz hsize hby hzs hsz v n xs hown ad 0 c [] (by simp) (by simp) (by simp) h63 hbytes hbase
      exact ⟨v', w', hrun, h2, h3, h5⟩
  · obtain ⟨b, o, rfl, _, hc⟩ := hr.2 (by omega)
    obtain ⟨v', w', hrun, h2, h3, _, h5⟩ := run_append_own_at (P := P) w base t ty e i z size bytes ht hi hz hsize hby hzs hsz v n xs hown ⟨b, o, none⟩ m c news hr.1
      (fun j u hu => by simpa [Addr.add_lit] using hc j u hu) h1 h63 hbytes hbase
    exact ⟨v', w', hrun, h2, h3, h5⟩

theorem wpList_app {P : Program} {w : World} {ops : Array Oper} {rest : List Oper} {o : Oper} {a : Act} {Q : Exit → Act → World → Prop} (hgd : o.guard = none) (s x : Operand) (t : TypeId)
    (ho : o.op = .call { callee := .builtin .append, args := #[s, x], argTypes := #[t, t] })
    (base : Nat) (e : TypeId) (i : TypeInfo) (z : Value) (size bytes : Nat) (ht : P.underlying t = some (.slice e)) (hi : P.info? e = some i) (hz : i.zero = some z)
    (hsize : i.size = size) (hby : i.bytes = bytes) (hzs : z.cells.size = size) (hsz : 0 < size)
    (v : Value) (n : Nat) (xs : List Value) (hs : a.eval s = v) (hown : w.ownsRow base e size v n xs)
    (B : Nat) (A : Option Addr) (m c : Nat) (news : List Value) (hx : a.eval x = .slice A m c) (hr : Rd w B A size m news) (h1 : ∀ u ∈ news, u.oneCell' = true)
    (h63 : n + m ≤ maxLen) (hbytes : (n + m) * bytes ≤ 140737488355328) (hbase : base ≤ w.heap.size)
    (h : ∀ v' w', w'.ownsRow base e size v' (n + m) (xs ++ news) → w.grownBy w' v.ownBlock → (v'.ownBlock = v.ownBlock ∨ v'.ownBlock = some w.heap.size) → wpList P ops Q rest (a.put o.dst v') w') : wpList P ops Q (o :: rest) a w := by
  refine wpList_plain hgd fun K hK => ?_
  obtain ⟨v', w', hrun, h2, h3, h4⟩ := app_any (P := P) w base t o.type e i z size bytes ht hi hz hsize hby hzs hsz v n xs hown B A m c news hr h1 h63 hbytes hbase
  unfold Oper.wp execOp
  simp only [ho, resolve, invoke, builtin, Sem.run_bind, Sem.run_pure, Result.andThen_ok, List.map_toArray, List.map_cons, List.map_nil, hs, hx, hrun]
  exact hK _ _ (h v' w' h2 h3 h4)

theorem eq_nilB (w : World) (A : Option Addr) (n c : Nat) : (binOp .eql 24 (.slice A n c) (.slice none 0 0)).run Try.prog w = .ok (.bool A.isNone) w :=
  Lib.run_eql_slice_nil w 24 5 A n c 0 0 Try.underlying24

theorem byte_info : (Try.prog.info? 5).map (fun i => (i.zero, i.size, i.bytes)) = some (some (.int .u8 0), 1, 1) := by kernel_rfl

/-- 'append(out, x)' and 'append(out, xs...)' at bytes, onto a row of the call's own. -/
theorem wpList_appB {w : World} {ops : Array Oper} {rest : List Oper} {o : Oper} {a : Act} {Q : Exit → Act → World → Prop} (hgd : o.guard = none) (s x : Operand)
    (ho : o.op = .call { callee := .builtin .append, args := #[s, x], argTypes := #[24, 24] })
    (base : Nat) (v : Value) (bs : List UInt8) (hs : a.eval s = v) (hown : OB w base v bs)
    (B : Nat) (A : Option Addr) (c : Nat) (news : List UInt8) (m : Nat) (hm : m = news.length) (hx : a.eval x = .slice A m c) (hr : RB w B A news)
    (h63 : bs.length + news.length ≤ 140737488355328) (hbase : base ≤ w.heap.size)
    (h : ∀ v' w', OB w' base v' (bs ++ news) → Below base w w' → w.grownBy w' v.ownBlock → (v'.ownBlock = v.ownBlock ∨ v'.ownBlock = some w.heap.size) → wpList Try.prog ops Q rest (a.put o.dst v') w') : wpList Try.prog ops Q (o :: rest) a w := by
  subst hm
  obtain ⟨i0, hi, hz, h1, h2⟩ := info_parts byte_info
  refine wpList_app hgd s x _ ho base 5 i0 _ 1 1 Try.underlying24 hi hz h1 h2 rfl (by omega) v bs.length (bvs bs) hs hown B A news.length c (bvs news) hx hr (bvs_one news) (by unfold maxLen; omega) (by omega) hbase ?_
  intro v' w' h3 h4 h5
  exact h v' w' (by unfold OB; rw [List.length_append, bvs_append]; exact h3) ((Below.refl _ _).grown h4 hbase (fun k hk => (hown.lt k hk).1)) h4 h5

/-- A block that the call has just laid, known whole: it reads as its bytes. -/
theorem RB.lit (w : World) (t : TypeId) (cs : Array Value) (bs : List UInt8) (h : cs = (bvs bs).toArray) : RB (w.alloc (.cells cs t)) (w.heap.size + 1) (some ⟨w.heap.size, 0, none⟩) bs := by
  subst h
  refine ⟨by simp [bvs], fun _ => ⟨_, _, rfl, by omega, fun j u hu => ?_⟩⟩
  rw [cell_of_row _ _ (0 + j) (bvs bs).toArray t (0, 0) (heap_alloc_new w _)]
  simpa using hu
theorem below_drewN {B : Nat} {a w : World} (h : Below B a w) (n : Nat) : Below B a (w.drewN n) := ⟨h.os, h.tape, h.output, h.size, h.block⟩

theorem OB.alloc {w : World} {base : Nat} {v : Value} {bs : List UInt8} (h : OB w base v bs) (o : Obj) : OB (w.alloc o) base v bs := World.ownsRow.alloc h o
theorem OB.nil (w : World) (base : Nat) : OB w base (.slice none 0 0) [] := World.ownsRow_nil _ _ _ _

/-- 'append(out, x)': one byte, which the translation lays in a new block first. -/
theorem wpList_app1 {w : World} {ops : Array Oper} {rest : List Oper} {o : Oper} {a : Act} {Q : Exit → Act → World → Prop} (hgd : o.guard = none) (s x : Operand)
    (ho : o.op = .call { callee := .builtin .append, args := #[s, x], argTypes := #[24, 24] })
    (base : Nat) (v : Value) (bs : List UInt8) (hs : a.eval s = v) (z : Int) (hx : a.eval x = .slice (some ⟨w.heap.size, 0, none⟩) 1 1) (hown : OB w base v bs)
    (u : UInt8) (hu : (u.toNat : Int) = z)
    (h63 : bs.length + 1 ≤ 140737488355328) (hbase : base ≤ w.heap.size)
    (h : ∀ v' w', OB w' base v' (bs ++ [u]) → Below base w w' → wpList Try.prog ops Q rest (a.put o.dst v') w') : wpList Try.prog ops Q (o :: rest) a (w.alloc (.cells #[.int .u8 z] 5)) := by
  refine wpList_appB hgd s x ho base v bs hs (hown.alloc _) (w.heap.size + 1) (some ⟨w.heap.size, 0, none⟩) 1 [u] 1 rfl hx ?_ h63 (by simp; omega) ?_
  · refine ⟨rfl, fun _ => ⟨_, _, rfl, by omega, fun j q hq => ?_⟩⟩
    match j, hq with
    | 0, hq => simp [bvs, bv] at hq; subst hq; subst hu; simp
    | j + 1, hq => simp [bvs] at hq
  · intro v' w' h1 h2 _ _
    exact h v' w' h1 (((Below.refl _ _).alloc hbase _).trans h2)

end Go.Proofs.Ytncjfljmnkfghaa

namespace Go.Proofs.Ytncjfljmnkfghaa
open Go.RowKit

theorem i64_bounds {n : Int} (h : (Lit.int .i64 n).wf = true) : -9223372036854775808 ≤ n ∧ n ≤ 9223372036854775807 := by
  simp [Lit.wf, IntKind.min, IntKind.max, IntKind.signed, IntKind.bits] at h
  exact ⟨by omega, by omega⟩
theorem u32_bounds {n : Int} (h : (Lit.int .u32 n).wf = true) : ∃ X : Nat, n = X ∧ X < 4294967296 := by
  simp [Lit.wf, IntKind.min, IntKind.max, IntKind.signed, IntKind.bits] at h
  exact ⟨n.toNat, by omega, by omega⟩
theorem u8_bounds {n : Int} (h : (Lit.int .u8 n).wf = true) : 0 ≤ n ∧ n < 256 := by
  simp [Lit.wf, IntKind.min, IntKind.max, IntKind.signed, IntKind.bits] at h
  exact ⟨by omega, by omega⟩

/-- A slice of bytes that came in reads as a list of bytes. -/
theorem rb_of_row {w : World} {a : Option Addr} {len cap : Nat} {zs : List Int}
    (h : (a = none ∧ len = 0 ∧ cap = 0 ∧ zs = []) ∨
      ∃ x, a = some x ∧ len ≤ cap ∧ cap ≤ maxLen ∧ zs.length = cap ∧ (∀ i, i < zs.length → w.cell? (x.add i) = some (.int .u8 (zs.getD i 0))) ∧ ∀ n ∈ zs, (Lit.int .u8 n).wf = true) :
    ∃ bs : List UInt8, len = bs.length ∧ RB w w.heap.size a bs ∧ bs.length ≤ cap ∧ cap ≤ maxLen ∧ (a = none → cap = 0) := by
  rcases h with ⟨rfl, rfl, rfl, rfl⟩ | ⟨x, rfl, hl, hm, hz, hcell, hwf⟩
  · exact ⟨[], rfl, RB.nil_, Nat.le_refl _, by unfold maxLen; omega, fun _ => rfl⟩
  · have hlen : ((zs.take len).map fun z => UInt8.ofNat z.toNat).length = len := by simp; omega
    refine ⟨(zs.take len).map fun z => UInt8.ofNat z.toNat, hlen.symm, ⟨by simp [bvs], fun h0 => ?_⟩, by omega, hm, fun h => by cases h⟩
    rw [hlen] at h0
    obtain ⟨b, off, spot⟩ := x
    have hc0 := hcell 0 (by omega)
    have hspot : spot = none := by simpa [Addr.add] using World.cell?_spot hc0
    subst hspot
    have hlt := World.block_lt_of_cell? w _ hc0
    refine ⟨b, off, rfl, by simpa [Addr.add] using hlt, fun j u hu => ?_⟩
    rw [bvs, List.map_map, List.getElem?_map] at hu
    by_cases hj : j < len
    · rw [List.getElem?_take, if_pos hj, List.getElem?_eq_getElem (by omega)] at hu
      simp only [Option.map_some, Option.some.injEq, Function.comp] at hu
      have hc := hcell j (by omega)
      rw [Addr.add_lit, List.getD_eq_getElem?_getD, List.getElem?_eq_getElem (by omega)] at hc
      rw [hc, ← hu]
      have hb := u8_bounds (hwf zs[j] (List.getElem_mem _))
      simp only [Option.getD_some, bv, Option.some.injEq, Value.int.injEq, true_and]
      rw [UInt8.toNat_ofNat', Nat.mod_eq_of_lt (by omega)]
      omega
    · rw [List.getElem?_eq_none (by rw [List.length_take]; omega)] at hu
      cases hu

open Go.ChangeShapes Go.WideShapes Go.ChangeAt
set_option maxRecDepth 8000 in
/-- An argument that is a slice of bytes. -/
theorem open_bytes {H : Type} {enc : TypeId × Value → H} {W : World} {b0 base : Nat} {v : Value} {d : DataW H} {p : List MemPlace} {spare : Nat → Bool} {held : Bool}
    (hv : Value.okWide Try.prog W .any b0 24 v) (h : DataW.Trod enc Try.prog W base spare held 24 v d p) (hs : ∀ b, spare b = true) :
    ∃ (a : Option Addr) (bs : List UInt8) (c : Nat), v = .slice a bs.length c ∧ RB W W.heap.size a bs ∧ bs.length ≤ c ∧ c ≤ maxLen ∧ (a = none → c = 0) := by
  obtain ⟨a, len, cap, rfl⟩ := okWide_slice Try.underlying24 hv
  obtain ⟨fuel, hf⟩ := h
  have hrow : ∃ zs, (a = none ∧ len = 0 ∧ cap = 0 ∧ zs = []) ∨
      ∃ x, a = some x ∧ len ≤ cap ∧ cap ≤ maxLen ∧ zs.length = cap ∧ (∀ i, i < zs.length → W.cell? (x.add i) = some (.int .u8 (zs.getD i 0))) ∧ ∀ n ∈ zs, (Lit.int .u8 n).wf = true := by
    rcases open_ints Try.underlying24 Try.underlying5 (by kernel_rfl) hf with ⟨hcs, _⟩ | ⟨x, l, c, zs, hcs, _, hl, hm, hz, _, hcell, hwz⟩
    · simp [Value.cells] at hcs
      obtain ⟨rfl, rfl, rfl⟩ := hcs
      exact ⟨[], .inl ⟨rfl, rfl, rfl, rfl⟩⟩
    · simp [Value.cells] at hcs
      obtain ⟨rfl, rfl, rfl⟩ := hcs
      exact ⟨zs, .inr ⟨_, rfl, hl, hm, by simpa [hs] using hz, hcell, hwz⟩⟩
  obtain ⟨zs, hz⟩ := hrow
  obtain ⟨bs, rfl, hr, hc, hm, hn⟩ := rb_of_row hz
  exact ⟨a, bs, cap, rfl, hr, hc, hm, hn⟩
theorem u8_nat {n : Int} (h : (Lit.int .u8 n).wf = true) : ∃ X : UInt8, n = (X.toNat : Int) := by
  have := u8_bounds h
  refine ⟨UInt8.ofNat n.toNat, ?_⟩
  rw [UInt8.toNat_ofNat', Nat.mod_eq_of_lt (by omega)]
  omega

end Go.Proofs.Ytncjfljmnkfghaa

namespace Go.Proofs.Ytncjfljmnkfghaa
open Go.RowKit
open Go.ChangeShapes Go.WideShapes Go.ChangeAt

set_option maxRecDepth 8000 in
theorem trod_bytes {H : Type} {enc : TypeId × Value → H} {W : World} {base fuel : Nat} {cs : List Value} {x : DataW H × List MemPlace} {spare : Nat → Bool} {held : Bool}
    (hf : DataW.trod enc Try.prog W base spare held fuel 24 cs = some x) (hs : ∀ b, spare b = true) :
    ∃ (a : Option Addr) (bs : List UInt8) (c : Nat), cs = [.slice a bs.length c] ∧ RB W W.heap.size a bs ∧ bs.length ≤ c ∧ c ≤ maxLen ∧ (a = none → c = 0) := by
  rcases open_ints Try.underlying24 Try.underlying5 (by kernel_rfl) hf with ⟨hcs, _⟩ | ⟨x, l, c, zs, hcs, _, hl, hm, hz, _, hcell, hwz⟩
  · obtain ⟨bs, hb, h1, h2, h3, h4⟩ := rb_of_row (w := W) (a := none) (len := 0) (cap := 0) (zs := []) (.inl ⟨rfl, rfl, rfl, rfl⟩)
    exact ⟨none, bs, 0, by rw [hcs, ← hb], h1, h2, h3, h4⟩
  · obtain ⟨bs, hb, h1, h2, h3, h4⟩ := rb_of_row (w := W) (a := some x) (len := l) (cap := c) (zs := zs) (.inr ⟨x, rfl, hl, hm, by simpa [hs] using hz, hcell, hwz⟩)
    exact ⟨some x, bs, c, by rw [hcs, ← hb], h1, h2, h3, h4⟩

/-- A slice of slices of bytes that is read. -/
def Parts (w : World) (B : Nat) (A : Option Addr) (L : List (List UInt8)) : Prop :=
  0 < L.length → ∃ b o, A = some ⟨b, o, none⟩ ∧ b < B ∧ ∀ k (h : k < L.length), ∃ Ak ck, w.cell? ⟨b, o + k, none⟩ = some (.slice Ak (L[k]).length ck) ∧ RB w B Ak L[k] ∧ (L[k]).length ≤ ck ∧ ck ≤ maxLen ∧ (Ak = none → ck = 0)
theorem Parts.below {w w' : World} {B : Nat} {A : Option Addr} {L : List (List UInt8)} (h : Parts w B A L) (hb : Below B w w') : Parts w' B A L := by
  intro h0
  obtain ⟨b, o, e, hlt, hk⟩ := h h0
  refine ⟨b, o, e, hlt, fun k hk2 => ?_⟩
  obtain ⟨Ak, ck, h1, h2, h3⟩ := hk k hk2
  exact ⟨Ak, ck, (hb.cell (p := ⟨b, o + k, none⟩) hlt).trans h1, h2.below hb, h3⟩

theorem choose_list {α : Type} {n : Nat} {p : Nat → α → Prop} (h : ∀ i, i < n → ∃ a, p i a) : ∃ L : List α, L.length = n ∧ ∀ i (hi : i < L.length), p i L[i] := by
  induction n with
  | zero => exact ⟨[], rfl, fun i hi => by simp at hi⟩
  | succ n ih =>
    obtain ⟨L, hL, hp⟩ := ih (fun i hi => h i (by omega))
    obtain ⟨a, ha⟩ := h n (by omega)
    refine ⟨L ++ [a], by simp [hL], fun i hi => ?_⟩
    by_cases hi2 : i < L.length
    · rw [List.getElem_append_left hi2]; exact hp i hi2
    · have e : i = n := by simp at hi; omega
      subst e
      rw [List.getElem_append_right (by omega)]
      simpa [hL] using ha

set_option maxRecDepth 8000 in
theorem open_parts {H : Type} {enc : TypeId × Value → H} {W : World} {b0 base : Nat} {v : Value} {d : DataW H} {p : List MemPlace} {spare : Nat → Bool} {held : Bool} {T : TypeId}
    (hT : Try.prog.underlying T = some (.slice 24)) (hv : Value.okWide Try.prog W .any b0 T v) (h : DataW.Trod enc Try.prog W base spare held T v d p) (hs : ∀ b, spare b = true) :
    ∃ (a : Option Addr) (L : List (List UInt8)) (c : Nat), v = .slice a L.length c ∧ Parts W W.heap.size a L ∧ L.length ≤ c ∧ c ≤ maxLen := by
  obtain ⟨a, len, cap, rfl⟩ := okWide_slice hT hv
  obtain ⟨fuel, hf⟩ := h
  rcases Deep.open_slice1 hT (by kernel_rfl) hf with ⟨hcs, _⟩ | ⟨x, l, c, m, n, V, D, Pl, hcs, _, hl, hm, hmm, _, hx⟩
  · simp [Value.cells] at hcs
    obtain ⟨rfl, rfl, rfl⟩ := hcs
    exact ⟨none, [], 0, rfl, fun h0 => by simp at h0, Nat.le_refl _, by unfold maxLen; omega⟩
  · simp [Value.cells] at hcs
    obtain ⟨rfl, rfl, rfl⟩ := hcs
    have hmc : m = cap := by rw [hmm, hs]; rfl
    have hel : ∀ i, i < len → ∃ bs : List UInt8, ∃ Ak ck, V i = .slice Ak bs.length ck ∧ RB W W.heap.size Ak bs ∧ bs.length ≤ ck ∧ ck ≤ maxLen ∧ (Ak = none → ck = 0) := by
      intro i hi
      obtain ⟨_, ht⟩ := hx i (by omega)
      obtain ⟨Ak, bs, ck, e, h1, h2, h3, h4⟩ := trod_bytes ht hs
      injection e with e
      exact ⟨bs, Ak, ck, e, h1, h2, h3, h4⟩
    obtain ⟨L, hL, hp⟩ := choose_list hel
    refine ⟨some x, L, cap, by rw [hL], fun h0 => ?_, by omega, hm⟩
    rw [hL] at h0
    obtain ⟨hc0, _⟩ := hx 0 (by omega)
    obtain ⟨b, off, spot⟩ := x
    have hspot : spot = none := by simpa [Addr.add] using World.cell?_spot hc0
    subst hspot
    have hlt := World.block_lt_of_cell? W _ hc0
    refine ⟨b, off, rfl, by simpa [Addr.add] using hlt, fun k hk => ?_⟩
    obtain ⟨Ak, ck, e, h1⟩ := hp k hk
    obtain ⟨hck, _⟩ := hx k (by omega)
    rw [Addr.add_lit, e] at hck
    exact ⟨Ak, ck, hck, h1⟩
end Go.Proofs.Ytncjfljmnkfghaa

namespace Go.Proofs.Ytncjfljmnkfghaa
open Go.RowKit

theorem zeros_cells (m : Nat) : Builtin.zeroCells (Value.int .u8 0).cells m = (Lib.strCells ⟨Array.replicate m 0⟩).toArray := by
  apply Array.ext
  · simp [Builtin.zeroCells, Lib.strCells, Value.cells]
  · intro j h1 h2
    simp [Builtin.zeroCells, Lib.strCells, Value.cells, Nat.mod_one]

theorem run_append_zeros_eq {P : Program} (w : World) (t ti u ty e : TypeId) (i : TypeInfo) (k : IntKind) (ht : P.underlying t = some (.slice e)) (hti : P.underlying ti = some (.int k)) (hu : P.underlying u = some .string)
    (hi : P.info? e = some i) (hz : i.zero = some (.int .u8 0)) (hsize : i.size = 1) (hby : i.bytes = 1) (A : Option Addr) (n c m : Nat) (hnm : n + m ≤ 140737488355328) :
    (Builtin.append_ #[t, ti] ty #[.slice A n c, .int .i64 m]).run P w = (Builtin.append_ #[t, u] ty #[.slice A n c, .string ⟨Array.replicate m 0⟩]).run P w := by
  have hsz : (ByteArray.mk (Array.replicate m 0)).size = m := by show (Array.replicate m (0 : UInt8)).size = m; simp
  have hf : ∀ w', (Builtin.firstCells 1 m (.string ⟨Array.replicate m 0⟩)).run P w' = .ok (Lib.strCells ⟨Array.replicate m 0⟩).toArray w' := by
    intro w'
    have := Lib.run_firstCells_string (P := P) w' 1 ⟨Array.replicate m 0⟩
    rwa [hsz] at this
  have hwr : IntKind.i64.wrap (m : Int) = m := by
    exact IntWalk.i64_in _ (by omega)
  have hai : ∀ w', (asIntOf (.int .i64 (m : Int))).run P w' = .ok (.i64, (m : Int)) w' := fun _ => rfl
  have hm0 : ¬ ((m : Int) < 0) := by omega
  have hm1 : ¬ (281474976710656 < (m : Int)) := by omega
  have hnil : m = 0 → (Lib.strCells ⟨Array.replicate m 0⟩).toArray = #[] := by rintro rfl; rfl
  have hz0 := zeros_cells m
  by_cases hroom : n + m ≤ c
  · by_cases h0 : m = 0
    · subst h0
      replace hwr : IntKind.i64.wrap 0 = 0 := hwr
      replace hai : ∀ w', (asIntOf (.int .i64 0)).run P w' = .ok (.i64, 0) w' := hai
      have hsz0 : (ByteArray.mk #[]).size = 0 := rfl
      have hf0 : ∀ w', (Builtin.firstCells 1 0 (.string ⟨#[]⟩)).run P w' = .ok #[] w' := hf
      clear hf hsz hnil hz0
      simp [Builtin.append_, run_underlying ht, run_underlying hti, run_underlying hu, sizeOf, typeInfo, hi, hsize, hby, Builtin.lenOf, asInt, hai, hwr, hsz0, (show n ≤ c by omega), hf0, zeroValue, hz]
    · simp [Builtin.append_, run_underlying ht, run_underlying hti, run_underlying hu, sizeOf, typeInfo, hi, hsize, hby, Builtin.lenOf, asInt, hai, hwr, hsz, hroom, hf, hm0, hm1, h0, hz0, zeroValue, hz]
  · have h63 : ¬ (9223372036854775807 < ((n : Int) + (m : Int))) := by omega
    have h48 : ¬ (281474976710656 < Builtin.nextslicecap (n + m) c) := by
      have := growslice_fits (need := n + m) (old := c) (bytes := 1) (by omega) (by omega)
      omega
    by_cases h0 : m = 0
    · subst h0
      replace hwr : IntKind.i64.wrap 0 = 0 := hwr
      replace hai : ∀ w', (asIntOf (.int .i64 0)).run P w' = .ok (.i64, 0) w' := hai
      have hsz0 : (ByteArray.mk #[]).size = 0 := rfl
      have hf0 : ∀ w', (Builtin.firstCells 1 0 (.string ⟨#[]⟩)).run P w' = .ok #[] w' := hf
      clear hf hsz hnil hz0
      simp [Builtin.append_, run_underlying ht, run_underlying hti, run_underlying hu, sizeOf, typeInfo, hi, hsize, hby, Builtin.lenOf, asInt, hai, hwr, hsz0, (show ¬ n ≤ c by omega), hf0, (show ¬ (9223372036854775807 < (n : Int)) by omega), (show ¬ (281474976710656 < Builtin.nextslicecap n c) by simpa using h48), zeroValue, hz]
    · simp [Builtin.append_, run_underlying ht, run_underlying hti, run_underlying hu, sizeOf, typeInfo, hi, hsize, hby, Builtin.lenOf, asInt, hai, hwr, hsz, hroom, hf, hm0, hm1, h63, h48, h0, hz0, zeroValue, hz]

theorem strCells_bvs (s : ByteArray) : Lib.strCells s = bvs s.data.toList := rfl
theorem data_length (s : ByteArray) : s.data.toList.length = s.size := by rw [Array.length_toList]; rfl

/-- 'append(out, s...)': a text's bytes. -/
theorem wpList_appS {w : World} {ops : Array Oper} {rest : List Oper} {o : Oper} {a : Act} {Q : Exit → Act → World → Prop} (hgd : o.guard = none) (s x : Operand)
    (ho : o.op = .call { callee := .builtin .append, args := #[s, x], argTypes := #[24, 9] })
    (base : Nat) (v : Value) (bs : List UInt8) (hs : a.eval s = v) (hown : OB w base v bs) (t : ByteArray) (hx : a.eval x = .string t)
    (h63 : bs.length + t.size ≤ 140737488355328) (hbase : base ≤ w.heap.size)
    (h : ∀ v' w', OB w' base v' (bs ++ t.data.toList) → Below base w w' → wpList Try.prog ops Q rest (a.put o.dst v') w') : wpList Try.prog ops Q (o :: rest) a w := by
  obtain ⟨i0, hi, hz, h1, h2⟩ := info_parts byte_info
  refine Lib.wpList_append_own_string w hgd s x _ _ ho base 5 i0 Try.underlying24 Try.underlying9 hi hz h1 h2 v bs.length (bvs bs) hs hown t hx (by unfold maxLen; omega) h63 hbase ?_
  intro v' w' h3 h4 _
  refine h v' w' ?_ ((Below.refl _ _).grown h4 hbase (fun k hk => (hown.lt k hk).1))
  unfold OB
  rw [List.length_append, bvs_append, data_length]
  exact h3

/-- 'append(out, make([]byte, m)...)': noughts. -/
theorem wpList_appZ {w : World} {ops : Array Oper} {rest : List Oper} {o : Oper} {a : Act} {Q : Exit → Act → World → Prop} (hgd : o.guard = none) (s x : Operand)
    (ho : o.op = .call { callee := .builtin .append, args := #[s, x], argTypes := #[24, 3] })
    (base : Nat) (v : Value) (bs : List UInt8) (hs : a.eval s = v) (hown : OB w base v bs) (m : Nat) (z : Int) (hz0 : z = m) (hx : a.eval x = .int .i64 z)
    (h63 : bs.length + m ≤ 140737488355328) (hbase : base ≤ w.heap.size)
    (h : ∀ v' w', OB w' base v' (bs ++ List.replicate m 0) → Below base w w' → wpList Try.prog ops Q rest (a.put o.dst v') w') : wpList Try.prog ops Q (o :: rest) a w := by
  subst hz0
  obtain ⟨i0, hi, hz, h1, h2⟩ := info_parts byte_info
  have hsz : (ByteArray.mk (Array.replicate m 0)).size = m := by show (Array.replicate m (0 : UInt8)).size = m; simp
  obtain ⟨A, c, rfl, hc1, hc2, -, -⟩ := hown.form
  obtain ⟨v', w', hrun, h3, h4, -⟩ := Lib.run_append_own_string (P := Try.prog) w base 24 9 o.type 5 i0 Try.underlying24 Try.underlying9 hi hz h1 h2 (.slice A bs.length c) bs.length (bvs bs) hown ⟨Array.replicate m 0⟩
    (by rw [hsz]; unfold maxLen; omega) (by rw [hsz]; exact h63) hbase
  rw [← run_append_zeros_eq (P := Try.prog) w 24 3 9 o.type 5 i0 .i64 Try.underlying24 Try.underlying3 Try.underlying9 hi hz h1 h2 A bs.length c m h63] at hrun
  refine wpList_plain hgd fun K hK => ?_
  unfold Oper.wp execOp
  simp only [ho, resolve, invoke, builtin, Sem.run_bind, Sem.run_pure, Result.andThen_ok, List.map_toArray, List.map_cons, List.map_nil, hs, hx, hrun]
  refine hK _ _ (h v' w' ?_ ((Below.refl _ _).grown h4 hbase (fun k hk => (hown.lt k hk).1)))
  unfold OB
  rw [List.length_append, bvs_append, List.length_replicate]
  rw [hsz, strCells_bvs] at h3
  simpa using h3

/-- 'append(out, x, y)': two bytes, laid in a new block first. -/
theorem wpList_app2 {w : World} {ops : Array Oper} {rest : List Oper} {o : Oper} {a : Act} {Q : Exit → Act → World → Prop} (hgd : o.guard = none) (s x : Operand)
    (ho : o.op = .call { callee := .builtin .append, args := #[s, x], argTypes := #[24, 24] })
    (base : Nat) (v : Value) (bs : List UInt8) (hs : a.eval s = v) (z y : Int) (hx : a.eval x = .slice (some ⟨w.heap.size, 0, none⟩) 2 2) (hown : OB w base v bs)
    (u p : UInt8) (hu : (u.toNat : Int) = z) (hp : (p.toNat : Int) = y)
    (h63 : bs.length + 2 ≤ 140737488355328) (hbase : base ≤ w.heap.size)
    (h : ∀ v' w', OB w' base v' (bs ++ [u, p]) → Below base w w' → wpList Try.prog ops Q rest (a.put o.dst v') w') : wpList Try.prog ops Q (o :: rest) a (w.alloc (.cells #[.int .u8 z, .int .u8 y] 5)) := by
  subst hu
  subst hp
  refine wpList_appB hgd s x ho base v bs hs (hown.alloc _) (w.heap.size + 1) (some ⟨w.heap.size, 0, none⟩) 2 [u, p] 2 rfl hx (RB.lit w _ _ [u, p] rfl) h63 (by simp; omega) ?_
  intro v' w' h1 h2 _ _
  exact h v' w' h1 (((Below.refl _ _).alloc hbase _).trans h2)

end Go.Proofs.Ytncjfljmnkfghaa
