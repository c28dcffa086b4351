/- Steps over slices of bytes: what is handed out and what is read, in words that last from call to call. Rows of ints; commonsref03.SameInts. Packets as bytes: plain words. No program in sight. Packets as bytes: with the limits as they are read, or behind. Plain words. No statement of the seat is proved here. -/
import Derived.Test.YtdlcpfgogjcciaaZ04
import Derived.Test.YtdlcpfgogjcciaaZ05
import Derived.Test.YtdlcpfgogjcciaaZ06
import Derived.Deep.Onto
import Derived.Test.YtdlcpfgogjcciaaZ02
namespace Go.Proofs.Ytdlcpfgogjcciaa
open Go.RowKit

/-- num.Put where the number fits. -/
theorem put_s {A : Option Addr} {n c : Nat} {bs : List UInt8} (m : Nat) {k x : Int} {w : World} (hs : Sl w A n bs) (hf : fitsB k x = true) (hk : k ≤ 9223372036854775807) (hm : n + x.toNat = m) (hl : m ≤ 17592186044000) :
    Calls Try.prog 51 #[.slice A n c, .int .i64 k, .int .i64 x] w fun e w' => ∃ A' c', e = .returned (.slice A' m c') ∧ Own w' w.heap.size A' m c' (bs ++ leB k.toNat x.toNat) ∧ Grow w w' := by
  obtain ⟨rfl, hn, hr⟩ := hs
  have h0 := fits_nat hf
  refine (num_put A bs c k x (by omega) hk w hr (by omega)).mono ?_
  rintro e w' ⟨v, rfl, hown, hb⟩
  rw [putB, if_pos hf] at hown
  obtain ⟨A', c', rfl, h⟩ := Own.ofOB hown m (by rw [List.length_append, leB_length]; exact hm) hl
  exact ⟨A', c', rfl, h, hb⟩

/-- num.Get. -/
theorem get_s {A : Option Addr} {n c : Nat} {bs : List UInt8} {at_ x : Int} {w : World} (hs : Sl w A n bs) (h0 : -9223372036854775808 ≤ at_) (h1 : at_ ≤ 9223372036854775807) :
    Calls Try.prog 60 #[.slice A n c, .int .i64 at_, .int .i64 x] w fun e w' => e = .returned (.tuple #[.int .i64 (getN bs at_ x), .bool (getK bs at_ x)]) ∧ w = w' := by
  obtain ⟨rfl, hn, hr⟩ := hs
  exact num_get A bs c at_ x h0 h1 _ w hr (by omega)

/-- crc.Sum. -/
theorem sum_s {A : Option Addr} {n c : Nat} {bs : List UInt8} {w : World} (hs : Sl w A n bs) :
    Calls Try.prog 52 #[.slice A n c] w fun e w' => ∃ q : Nat, e = .returned (.int .u32 (q : Int)) ∧ Hid (q = crcN bs) ∧ q < 4294967296 ∧ Grow w w' := by
  obtain ⟨hn, hl, hr⟩ := hs
  refine (crc_sum A bs n c hn.symm w hr (by omega)).mono ?_
  rintro e w' ⟨rfl, hb⟩
  exact ⟨_, rfl, Lib.hid rfl, crcN_lt bs, hb⟩

/-- The reference's. -/
theorem rput_s {A : Option Addr} {n c : Nat} {bs : List UInt8} (m : Nat) {k x : Int} {w : World} (hs : Sl w A n bs) (hf : fitsB k x = true) (hk : k ≤ 9223372036854775807) (hm : n + x.toNat = m) (hl : m ≤ 17592186044000) :
    Calls Try.prog 42 #[.slice A n c, .int .i64 k, .int .i64 x] w fun e w' => ∃ A' c', e = .returned (.slice A' m c') ∧ Own w' w.heap.size A' m c' (bs ++ leB k.toNat x.toNat) ∧ Grow w w' := by
  obtain ⟨rfl, hn, hr⟩ := hs
  refine (ref1_put A bs c k x w hr (by omega) hk).mono ?_
  rintro e w' ⟨v, rfl, hown, hb⟩
  rw [putB, if_pos hf] at hown
  obtain ⟨A', c', rfl, h⟩ := Own.ofOB hown m (by rw [List.length_append, leB_length]; exact hm) hl
  exact ⟨A', c', rfl, h, hb⟩
theorem rget_s {A : Option Addr} {n c : Nat} {bs : List UInt8} {at_ x : Int} {w : World} (hs : Sl w A n bs) (h0 : -9223372036854775808 ≤ at_) (h1 : at_ ≤ 9223372036854775807) :
    Calls Try.prog 41 #[.slice A n c, .int .i64 at_, .int .i64 x] w fun e w' => e = .returned (.tuple #[.int .i64 (getN bs at_ x), .bool (getK bs at_ x)]) ∧ w = w' := by
  obtain ⟨rfl, hn, hr⟩ := hs
  exact ref1_get A bs c at_ x h0 h1 _ w hr (by omega)
theorem rsum_s {A : Option Addr} {n c : Nat} {bs : List UInt8} {w : World} (hs : Sl w A n bs) :
    Calls Try.prog 92 #[.slice A n c] w fun e w' => ∃ q : Nat, e = .returned (.int .i64 (q : Int)) ∧ Hid (q = crcN bs) ∧ q < 4294967296 ∧ w = w' := by
  obtain ⟨hn, hl, hr⟩ := hs
  refine (ref2_sum A bs n c hn.symm _ w hr (by omega)).mono ?_
  rintro e w' ⟨rfl, rfl⟩
  exact ⟨_, rfl, Lib.hid rfl, crcN_lt bs, rfl⟩
end Go.Proofs.Ytdlcpfgogjcciaa

namespace Go.Proofs.Ytdlcpfgogjcciaa
open Go.RowKit

def ics (L : List Int) : List Value := L.map (fun n => .int .i64 n)
theorem ics_append (a b : List Int) : ics (a ++ b) = ics a ++ ics b := by simp [ics]
theorem ics_length (a : List Int) : (ics a).length = a.length * 1 := by simp [ics]
theorem ics_one (a : List Int) : ∀ u ∈ ics a, u.oneCell' = true := by
  intro u hu
  obtain ⟨r, -, rfl⟩ := List.mem_map.1 hu
  rfl
/-- A row of ints of the call's own. -/
def OI (w : World) (base : Nat) (v : Value) (L : List Int) : Prop := w.ownsRow base 3 1 v L.length (ics L)
theorem OI.nil (w : World) (base : Nat) : OI w base (.slice none 0 0) [] := World.ownsRow_nil _ _ _ _
theorem OI.alloc {w : World} {base : Nat} {v : Value} {L : List Int} (h : OI w base v L) (o : Obj) : OI (w.alloc o) base v L := World.ownsRow.alloc h o
theorem int_info : (Try.prog.info? 3).map (fun i => (i.zero, i.size, i.bytes)) = some (some (.int .i64 0), 1, 8) := by kernel_rfl
theorem wpList_appI {w : World} {ops : Array Oper} {rest : List Oper} {o : Oper} {a : Act} {Q : Exit → Act → World → Prop} (hgd : o.guard = none) (s x : Operand)
    (ho : o.op = .call { callee := .builtin .append, args := #[s, x], argTypes := #[40, 40] })
    (base : Nat) (v : Value) (L : List Int) (hs : a.eval s = v) (hown : OI w base v L)
    (B : Nat) (A : Option Addr) (c : Nat) (news : List Int) (m : Nat) (hm : m = news.length) (hx : a.eval x = .slice A m c) (hr : Rd w B A 1 news.length (ics news))
    (h63 : L.length + news.length ≤ 1000000) (hbase : base ≤ w.heap.size)
    (h : ∀ v' w', OI w' base v' (L ++ news) → Below base w w' → w.grownBy w' v.ownBlock → (v'.ownBlock = v.ownBlock ∨ v'.ownBlock = some w.heap.size) → wpList Try.prog ops Q rest (a.put o.dst v') w') : wpList Try.prog ops Q (o :: rest) a w := by
  subst hm
  obtain ⟨i0, hi, hz, h1, h2⟩ := info_parts int_info
  refine wpList_app hgd s x _ ho base 3 i0 _ 1 8 Try.underlying40 hi hz h1 h2 rfl (by omega) v L.length (ics L) hs hown B A news.length c (ics news) hx hr (ics_one news) (by unfold maxLen; omega) (by omega) hbase ?_
  intro v' w' h3 h4 h5
  exact h v' w' (by unfold OI; rw [List.length_append, ics_append]; exact h3) ((Below.refl _ _).grown h4 hbase (fun k hk => (hown.lt k hk).1)) h4 h5

theorem Rd.litV (w : World) (t : TypeId) (vs : List Value) (size n : Nat) (hn : vs.length = n * size) : Rd (w.alloc (.cells vs.toArray t)) (w.heap.size + 1) (some ⟨w.heap.size, 0, none⟩) size n vs := by
  refine ⟨hn, fun _ => ⟨_, _, rfl, by omega, fun j u hu => ?_⟩⟩
  rw [cell_of_row _ _ (0 + j) vs.toArray t (0, 0) (heap_alloc_new w _)]
  simpa using hu
theorem Grow.grown {w w' : World} (g : Grow w w') : w.grownBy w' none := ⟨g.os, g.tape, g.output, g.size, fun k hk _ => g.block k hk⟩
theorem own_none (v : Value) : v.ownBlock = none ∨ v.ownBlock ≠ none := by cases v.ownBlock <;> simp
theorem wpList_appIone {w : World} {ops : Array Oper} {rest : List Oper} {o : Oper} {a : Act} {Q : Exit → Act → World → Prop} (hgd : o.guard = none) (s x : Operand)
    (ho : o.op = .call { callee := .builtin .append, args := #[s, x], argTypes := #[40, 40] })
    (base : Nat) (u : Value) (K : List Int) (hs : a.eval s = u) (r : Int) (hx : a.eval x = .slice (some ⟨w.heap.size, 0, none⟩) 1 1) (hown : OI w base u K)
    (h63 : K.length + 1 ≤ 1000000) (hbase : base ≤ w.heap.size)
    (h : ∀ u' w', OI w' base u' (K ++ [r]) → Below base w w' → wpList Try.prog ops Q rest (a.put o.dst u') w') : wpList Try.prog ops Q (o :: rest) a (w.alloc (.cells #[.int .i64 r] 3)) := by
  refine wpList_appI hgd s x ho base u K hs (hown.alloc _) (w.heap.size + 1) (some ⟨w.heap.size, 0, none⟩) 1 [r] 1 rfl hx (Rd.litV w _ (ics [r]) 1 1 rfl) h63 (by simp; omega) ?_
  intro u' w' q1 q2 q3 q4
  exact h u' w' q1 (((Below.refl _ _).alloc hbase _).trans q2)
def RI (w : World) (A : Option Addr) (n : Nat) (K : List Int) : Prop := K.length = n ∧ Rd w w.heap.size A 1 n (ics K)
theorem RI.keep {w w' : World} {A : Option Addr} {n : Nat} {L : List Int} (h : RI w A n L) (g : Grow w w') : RI w' A n L := ⟨h.1, (Rd.below h.2 g).more g.size⟩
theorem OI.ri {w : World} {base : Nat} {v : Value} {L : List Int} (h : OI w base v L) : ∃ A c, v = .slice A L.length c ∧ L.length ≤ c ∧ RI w A L.length L := by
  obtain ⟨A, c, rfl, h1, -, -, -⟩ := own_form h
  exact ⟨A, c, rfl, h1, rfl, Rd.of_own h⟩
theorem RI.at_ {w : World} {A : Option Addr} {n : Nat} {K : List Int} (h : RI w A n K) {i : Nat} (hi : i < n) : ∃ b o r, K[i]? = some r ∧ A = some ⟨b, o, none⟩ ∧ b < w.heap.size ∧ w.cell? ⟨b, o + i, none⟩ = some (.int .i64 r) := by
  obtain ⟨hn, hl, hr⟩ := h
  obtain ⟨b, o, rfl, hb, hc⟩ := hr (by omega)
  have hi' : i < K.length := by omega
  refine ⟨b, o, K[i], by simp [hi'], rfl, hb, hc i _ (by simp [ics, hi'])⟩

end Go.Proofs.Ytdlcpfgogjcciaa

namespace Go.Proofs.Ytdlcpfgogjcciaa

/-- A packet; its names apart from their slice. -/
structure PK where
  kind : Int := 0
  client : Int := 0
  epoch : Int := 0
  seq : Int := 0
  op : Int := 0
  at_ : Int := 0
  n : Int := 0
  data : ByteArray := ⟨#[]⟩
  old : Int := 0
  new : Int := 0
  ckind : Int := 0
  path : ByteArray := ⟨#[]⟩
  path2 : ByteArray := ⟨#[]⟩
  flags : Int := 0
  cfd : Int := 0
  coff : Int := 0
  cn : Int := 0
  cdata : ByteArray := ⟨#[]⟩
  ino : Int := 0
  errno : Int := 0
  rerrno : Int := 0
  rfd : Int := 0
  rdata : ByteArray := ⟨#[]⟩
  names : List ByteArray := []
  ikind : Int := 0
  ilinks : Int := 0
  isize : Int := 0
  wrote : Int := 0
  nkind : Int := 0
  nlinks : Int := 0
  nsize : Int := 0
  b0 : Int := 0
  b1 : Int := 0
  b2 : Int := 0
  b3 : Int := 0
  o0 : Int := 0
  o1 : Int := 0
  o2 : Int := 0
  o3 : Int := 0
  o4 : Int := 0
  o5 : Int := 0
  o6 : Int := 0
  o7 : Int := 0
deriving DecidableEq

/-- Bytes that are put; none: it may not be. -/
abbrev OBs := Option (List UInt8)
def gd (b : Bool) (o : OBs) : OBs := if b = true then o else none
def pN (o : OBs) (n : Int) (w : Nat) : OBs := o.bind fun bs => if fitsB n w = true then some (bs ++ leB n.toNat w) else none
def pT (o : OBs) (s : ByteArray) (w : Nat) (most : Int) : OBs := (pN (gd (decide ((s.size : Int) ≤ most)) o) s.size w).map (· ++ s.data.toList)
def pNs (o : OBs) (l : List Int) (w : Nat) : OBs := l.foldl (fun o n => pN o n w) o
def pTs (o : OBs) (l : List ByteArray) : OBs := l.foldl (fun o s => pT o s 1 12) o
def verbB (op : Int) : Bool := decide (1 ≤ op ∧ op ≤ 4)
def cliB (c : Int) : Bool := decide (1 ≤ c ∧ c ≤ 8)
def bAsk (p : PK) (o : OBs) : OBs := pN (pN (pT (pN (pN (pN (gd (verbB p.op) o) p.op 1) p.at_ 4) p.n 2) p.data 2 128) p.old 8) p.new 8
def bTold (p : PK) (o : OBs) : OBs := pN (pT (pN (pN (gd (verbB p.op) o) p.op 1) p.errno 1) p.data 2 128) p.old 8
def bRAsk (p : PK) (o : OBs) : OBs := pN (pN (pT (pT (pN (pN o p.op 1) p.ino 1) p.path 1 100) p.path2 1 100) p.flags 1) p.cn 4
def bRTold0 (p : PK) (o : OBs) : OBs :=
  pN (pN (pN (pN (pN (pN (pN (pN (pN (pN (pN (pN (pN (pN (pN o p.op 1) p.errno 1) p.ino 1) p.wrote 8) p.at_ 4) p.ikind 1) p.ilinks 1) p.isize 2) p.nkind 1) p.nlinks 1) p.nsize 2) p.b0 1) p.b1 1) p.b2 1) p.b3 1
def bRTold (p : PK) (o : OBs) : OBs := pTs (pN (gd (decide (p.names.length ≤ 16)) (bRTold0 p o)) (p.names.length : Nat) 1) p.names
def bRecall (p : PK) (o : OBs) : OBs := pN o p.ino 1
def headP (p : PK) : OBs := pN (pN (pN (pN (gd (cliB p.client) (some [])) p.kind 1) p.client 1) p.epoch 4) p.seq 8
/-- A packet's bytes without the sum. -/
def innerP (p : PK) : OBs :=
  if p.kind = 1 then bAsk p (headP p) else if p.kind = 2 then bTold p (headP p) else if p.kind = 3 then bRAsk p (headP p) else if p.kind = 4 then bRTold p (headP p)
  else if p.kind = 5 then bRecall p (headP p) else none
/-- A packet without the fields that its kind does not have. -/
def normP (p : PK) : PK :=
  if p.kind = 1 then { kind := p.kind, client := p.client, epoch := p.epoch, seq := p.seq, op := p.op, at_ := p.at_, n := p.n, data := p.data, old := p.old, new := p.new }
  else if p.kind = 2 then { kind := p.kind, client := p.client, epoch := p.epoch, seq := p.seq, op := p.op, errno := p.errno, data := p.data, old := p.old }
  else if p.kind = 3 then { kind := p.kind, client := p.client, epoch := p.epoch, seq := p.seq, op := p.op, ino := p.ino, path := p.path, path2 := p.path2, flags := p.flags, cn := p.cn }
  else if p.kind = 4 then { kind := p.kind, client := p.client, epoch := p.epoch, seq := p.seq, op := p.op, errno := p.errno, ino := p.ino, wrote := p.wrote, at_ := p.at_, ikind := p.ikind, ilinks := p.ilinks, isize := p.isize, nkind := p.nkind, nlinks := p.nlinks, nsize := p.nsize, b0 := p.b0, b1 := p.b1, b2 := p.b2, b3 := p.b3, names := p.names }
  else if p.kind = 5 then { kind := p.kind, client := p.client, epoch := p.epoch, seq := p.seq, ino := p.ino }
  else { kind := p.kind, client := p.client, epoch := p.epoch, seq := p.seq }
/-- The numbers that a width of 8 holds are such as may be. -/
def PK.wide (p : PK) : Prop := p.seq ≤ 9223372036854775807 ∧ p.old ≤ 9223372036854775807 ∧ p.new ≤ 9223372036854775807 ∧ p.wrote ≤ 9223372036854775807

/-- The next number, and what is left. -/
def rN (o : OBs) (w : Nat) : Int := o.elim 0 fun b => if getK b 0 w = true then getN b 0 w else 0
def rNr (o : OBs) (w : Nat) : OBs := o.bind fun b => if getK b 0 w = true then some (b.drop w) else none
/-- The next text: of at most so many bytes. -/
def rTs (o : OBs) (w : Nat) (most : Int) : ByteArray := (rNr o w).elim ⟨#[]⟩ fun b => if rN o w ≤ most ∧ rN o w ≤ b.length then ⟨(b.take (rN o w).toNat).toArray⟩ else ⟨#[]⟩
def rTr (o : OBs) (w : Nat) (most : Int) : OBs := (rNr o w).bind fun b => if rN o w ≤ most ∧ rN o w ≤ b.length then some (b.drop (rN o w).toNat) else none
/-- The limits, or none. -/
def mo (L : Bool) (m : Int) : Int := if L = true then m else 9223372036854775807
def rNames (L : Bool) : Nat → OBs → List ByteArray × OBs
  | 0, o => ([], o)
  | _ + 1, none => ([], none)
  | k + 1, some b => (rTs (some b) 1 (mo L 12) :: (rNames L k (rTr (some b) 1 (mo L 12))).1, (rNames L k (rTr (some b) 1 (mo L 12))).2)
def rAsk (L : Bool) (q : PK) (o : OBs) : PK × OBs :=
  let s1 := rNr o 1
  let s2 := rNr s1 4
  let s3 := rNr s2 2
  let s4 := rTr s3 2 (mo L 128)
  let s5 := rNr s4 8
  ({ q with op := rN o 1, at_ := rN s1 4, n := rN s2 2, data := rTs s3 2 (mo L 128), old := rN s4 8, new := rN s5 8 }, gd (!L || verbB (rN o 1)) (rNr s5 8))
def rTold (L : Bool) (q : PK) (o : OBs) : PK × OBs :=
  let s1 := rNr o 1
  let s2 := rNr s1 1
  let s3 := rTr s2 2 (mo L 128)
  ({ q with op := rN o 1, errno := rN s1 1, data := rTs s2 2 (mo L 128), old := rN s3 8 }, gd (!L || verbB (rN o 1)) (rNr s3 8))
def rRAsk (L : Bool) (q : PK) (o : OBs) : PK × OBs :=
  let s1 := rNr o 1
  let s2 := rNr s1 1
  let s3 := rTr s2 1 (mo L 100)
  let s4 := rTr s3 1 (mo L 100)
  let s5 := rNr s4 1
  ({ q with op := rN o 1, ino := rN s1 1, path := rTs s2 1 (mo L 100), path2 := rTs s3 1 (mo L 100), flags := rN s4 1, cn := rN s5 4 }, rNr s5 4)
def rRTold (L : Bool) (q : PK) (o : OBs) : PK × OBs :=
  let s1 := rNr o 1
  let s2 := rNr s1 1
  let s3 := rNr s2 1
  let s4 := rNr s3 8
  let s5 := rNr s4 4
  let s6 := rNr s5 1
  let s7 := rNr s6 1
  let s8 := rNr s7 2
  let s9 := rNr s8 1
  let s10 := rNr s9 1
  let s11 := rNr s10 2
  let s12 := rNr s11 1
  let s13 := rNr s12 1
  let s14 := rNr s13 1
  let s15 := rNr s14 1
  let m := rN s15 1
  let s16 := gd (!L || decide (m ≤ 16)) (rNr s15 1)
  let z := rNames L m.toNat s16
  ({ q with op := rN o 1, errno := rN s1 1, ino := rN s2 1, wrote := rN s3 8, at_ := rN s4 4, ikind := rN s5 1, ilinks := rN s6 1, isize := rN s7 2, nkind := rN s8 1, nlinks := rN s9 1, nsize := rN s10 2, b0 := rN s11 1, b1 := rN s12 1, b2 := rN s13 1, b3 := rN s14 1, names := z.1 }, z.2)
def rRecall (q : PK) (o : OBs) : PK × OBs := ({ q with ino := rN o 1 }, rNr o 1)
def rHead (o : OBs) : PK := { kind := rN o 1, client := rN (rNr o 1) 1, epoch := rN (rNr (rNr o 1) 1) 4, seq := rN (rNr (rNr (rNr o 1) 1) 4) 8 }
def rHeadR (o : OBs) : OBs := rNr (rNr (rNr (rNr o 1) 1) 4) 8
def rBody (L : Bool) (q : PK) (o : OBs) : PK × OBs :=
  if q.kind = 1 then rAsk L q o else if q.kind = 2 then rTold L q o else if q.kind = 3 then rRAsk L q o else if q.kind = 4 then rRTold L q o else if q.kind = 5 then rRecall q o
  else (q, gd (!L) o)
def parseP (L : Bool) (b : List UInt8) : PK × OBs := rBody L (rHead (some b)) (rHeadR (some b))
/-- Bytes are a packet's, without the sum. -/
def okP (b : List UInt8) : Bool := decide ((parseP true b).2 = some []) && cliB (parseP true b).1.client

theorem gd_some {b : Bool} {o : OBs} {l : List UInt8} (h : gd b o = some l) : b = true ∧ o = some l := by
  cases b with
  | true => exact ⟨rfl, h⟩
  | false => cases h
theorem pN_some {o : OBs} {n : Int} {w : Nat} {l : List UInt8} (h : pN o n w = some l) : ∃ bs, o = some bs ∧ fitsB n w = true ∧ l = bs ++ leB n.toNat w := by
  cases o with
  | none => cases h
  | some bs =>
    unfold pN at h
    simp only [Option.bind_some] at h
    split at h
    · injection h with h
      exact ⟨bs, rfl, by assumption, h.symm⟩
    · cases h
theorem pT_some {o : OBs} {s : ByteArray} {w : Nat} {most : Int} {l : List UInt8} (h : pT o s w most = some l) : ∃ bs, o = some bs ∧ (s.size : Int) ≤ most ∧ fitsB s.size w = true ∧ l = bs ++ (leB s.size w ++ s.data.toList) := by
  unfold pT at h
  obtain ⟨l1, h1, h2⟩ := Option.map_eq_some_iff.1 h
  obtain ⟨bs, h3, h4, h5⟩ := pN_some h1
  obtain ⟨h6, h7⟩ := gd_some h3
  exact ⟨bs, h7, of_decide_eq_true h6, h4, by rw [← h2, h5]; simp⟩
theorem rN_of {n : Int} {w : Nat} (h : fitsB n w = true) (h1 : n ≤ 9223372036854775807) (r : List UInt8) : rN (some (leB n.toNat w ++ r)) w = n ∧ rNr (some (leB n.toNat w ++ r)) w = some r := by
  obtain ⟨e1, e2⟩ := get_mid (bs := leB n.toNat w ++ r) (p := []) (q := r) (a := 0) rfl rfl h h1
  have e1' : getN (leB n.toNat w ++ r) 0 w = n := e1
  have e2' : getK (leB n.toNat w ++ r) 0 w = true := e2
  refine ⟨?_, ?_⟩
  · show (if getK (leB n.toNat w ++ r) 0 w = true then getN (leB n.toNat w ++ r) 0 w else 0) = n
    rw [if_pos e2', e1']
  · show (if getK (leB n.toNat w ++ r) 0 w = true then some ((leB n.toNat w ++ r).drop w) else none) = some r
    rw [if_pos e2', List.drop_left' (leB_length _ _)]
theorem rT_of {s : ByteArray} {w : Nat} {most : Int} (h : fitsB (s.size : Nat) w = true) (hm : (s.size : Int) ≤ most) (h1 : (s.size : Int) ≤ 9223372036854775807) (r : List UInt8) :
    rTs (some (leB s.size w ++ (s.data.toList ++ r))) w most = s ∧ rTr (some (leB s.size w ++ (s.data.toList ++ r))) w most = some r := by
  obtain ⟨e1, e2⟩ := rN_of h h1 (s.data.toList ++ r)
  rw [Int.toNat_natCast] at e1 e2
  have hl : s.data.toList.length = s.size := Array.length_toList
  unfold rTs rTr
  rw [e2, e1]
  have hc : (s.size : Int) ≤ most ∧ (s.size : Int) ≤ ((s.data.toList ++ r).length : Nat) := ⟨hm, by rw [List.length_append, hl]; omega⟩
  refine ⟨?_, ?_⟩
  · show (if (s.size : Int) ≤ most ∧ (s.size : Int) ≤ ((s.data.toList ++ r).length : Nat) then (⟨((s.data.toList ++ r).take (s.size : Int).toNat).toArray⟩ : ByteArray) else ⟨#[]⟩) = s
    rw [if_pos hc, Int.toNat_natCast, List.take_left' hl]
  · show (if (s.size : Int) ≤ most ∧ (s.size : Int) ≤ ((s.data.toList ++ r).length : Nat) then some ((s.data.toList ++ r).drop (s.size : Int).toNat) else none) = some r
    rw [if_pos hc, Int.toNat_natCast, List.drop_left' hl]
theorem rNr_some {o : OBs} {w : Nat} {r : List UInt8} (h : rNr o w = some r) : ∃ bs, o = some bs ∧ fitsB (rN o w) w = true ∧ 0 ≤ rN o w ∧ rN o w ≤ 9223372036854775807 ∧ bs = leB (rN o w).toNat w ++ r := by
  cases o with
  | none => cases h
  | some bs =>
    have h' : (if getK bs 0 w = true then some (bs.drop w) else none) = some r := h
    split at h'
    · rename_i hk
      injection h' with h'
      have e : rN (some bs) w = getN bs 0 w := by
        show (if getK bs 0 w = true then getN bs 0 w else 0) = _
        rw [if_pos hk]
      obtain ⟨f1, f2, f3⟩ := get_range (a := 0) hk
      have f4 := get_piece (a := 0) hk
      rw [e]
      refine ⟨bs, rfl, f1, f2, f3, ?_⟩
      rw [← h', ← (show (bs.drop 0).take w = leB (getN bs 0 w).toNat w from f4), List.drop_zero, List.take_append_drop]
    · cases h'
theorem rTr_some {o : OBs} {w : Nat} {most : Int} {r : List UInt8} (h : rTr o w most = some r) : ∃ bs, o = some bs ∧ fitsB ((rTs o w most).size : Nat) w = true ∧ ((rTs o w most).size : Int) ≤ most ∧ bs = leB (rTs o w most).size w ++ ((rTs o w most).data.toList ++ r) := by
  unfold rTr at h
  obtain ⟨b, h1, h2⟩ := Option.bind_eq_some_iff.1 h
  obtain ⟨bs, rfl, f1, f2, f3, f4⟩ := rNr_some h1
  split at h2
  · rename_i hc
    injection h2 with h2
    have e : rTs (some bs) w most = ⟨(b.take (rN (some bs) w).toNat).toArray⟩ := by
      unfold rTs
      rw [h1]
      show (if _ then _ else _) = _
      rw [if_pos hc]
    have hz : (rTs (some bs) w most).size = (rN (some bs) w).toNat := by
      rw [e]
      simp only [ByteArray.size, List.size_toArray, List.length_take]
      omega
    have hz' : (((rTs (some bs) w most).size : Nat) : Int) = rN (some bs) w := by rw [hz]; omega
    refine ⟨bs, rfl, by rw [hz']; exact f1, by rw [hz']; exact hc.1, ?_⟩
    rw [hz, e, ← h2]
    simp only
    rw [List.take_append_drop]
    exact f4
  · cases h2

theorem pN_of {n : Int} {w : Nat} (h : fitsB n w = true) (bs : List UInt8) : pN (some bs) n w = some (bs ++ leB n.toNat w) := by
  show (if fitsB n w = true then some (bs ++ leB n.toNat w) else none) = _
  rw [if_pos h]
theorem pT_of {s : ByteArray} {w : Nat} {most : Int} (h : fitsB s.size w = true) (hm : (s.size : Int) ≤ most) (bs : List UInt8) : pT (some bs) s w most = some (bs ++ (leB s.size w ++ s.data.toList)) := by
  unfold pT gd
  rw [decide_eq_true hm, if_pos rfl, pN_of h, Option.map_some, Int.toNat_natCast, List.append_assoc]
theorem gd_of {b : Bool} (h : b = true) (o : OBs) : gd b o = o := by unfold gd; rw [if_pos h]
/-- What was read can be put: the bodies. -/
theorem ask_inv {q : PK} {o : OBs} {r : List UInt8} (h : (rAsk true q o).2 = some r) : ∃ xs, o = some (xs ++ r) ∧ ∀ pre, bAsk (rAsk true q o).1 (some pre) = some (pre ++ xs) := by
  obtain ⟨hv, h⟩ := gd_some h
  obtain ⟨y5, e5, f5, -, -, d5⟩ := rNr_some h
  obtain ⟨y4, e4, f4, -, -, d4⟩ := rNr_some e5
  obtain ⟨y3, e3, f3, m3, d3⟩ := rTr_some e4
  obtain ⟨y2, e2, f2, -, -, d2⟩ := rNr_some e3
  obtain ⟨y1, e1, f1, -, -, d1⟩ := rNr_some e2
  obtain ⟨y0, e0, f0, -, -, d0⟩ := rNr_some e1
  refine ⟨_, by rw [e0, d0, d1, d2, d3, d4, d5]; simp only [← List.append_assoc]; rfl, fun pre => ?_⟩
  have hv' : verbB (rN o 1) = true := by simpa using hv
  unfold bAsk rAsk
  simp only
  rw [gd_of hv', pN_of f0, pN_of f1, pN_of f2, pT_of f3 (show _ ≤ (128 : Int) from m3), pN_of f4, pN_of f5]
  simp only [List.append_assoc]
theorem told_inv {q : PK} {o : OBs} {r : List UInt8} (h : (rTold true q o).2 = some r) : ∃ xs, o = some (xs ++ r) ∧ ∀ pre, bTold (rTold true q o).1 (some pre) = some (pre ++ xs) := by
  obtain ⟨hv, h⟩ := gd_some h
  obtain ⟨y3, e3, f3, -, -, d3⟩ := rNr_some h
  obtain ⟨y2, e2, f2, m2, d2⟩ := rTr_some e3
  obtain ⟨y1, e1, f1, -, -, d1⟩ := rNr_some e2
  obtain ⟨y0, e0, f0, -, -, d0⟩ := rNr_some e1
  refine ⟨_, by rw [e0, d0, d1, d2, d3]; simp only [← List.append_assoc]; rfl, fun pre => ?_⟩
  have hv' : verbB (rN o 1) = true := by simpa using hv
  unfold bTold rTold
  simp only
  rw [gd_of hv', pN_of f0, pN_of f1, pT_of f2 (show _ ≤ (128 : Int) from m2), pN_of f3]
  simp only [List.append_assoc]
theorem rask_inv {q : PK} {o : OBs} {r : List UInt8} (h : (rRAsk true q o).2 = some r) : ∃ xs, o = some (xs ++ r) ∧ ∀ pre, bRAsk (rRAsk true q o).1 (some pre) = some (pre ++ xs) := by
  obtain ⟨y5, e5, f5, -, -, d5⟩ := rNr_some (show rNr _ 4 = some r from h)
  obtain ⟨y4, e4, f4, -, -, d4⟩ := rNr_some e5
  obtain ⟨y3, e3, f3, m3, d3⟩ := rTr_some e4
  obtain ⟨y2, e2, f2, m2, d2⟩ := rTr_some e3
  obtain ⟨y1, e1, f1, -, -, d1⟩ := rNr_some e2
  obtain ⟨y0, e0, f0, -, -, d0⟩ := rNr_some e1
  refine ⟨_, by rw [e0, d0, d1, d2, d3, d4, d5]; simp only [← List.append_assoc]; rfl, fun pre => ?_⟩
  unfold bRAsk rRAsk
  simp only
  rw [pN_of f0, pN_of f1, pT_of f2 (show _ ≤ (100 : Int) from m2), pT_of f3 (show _ ≤ (100 : Int) from m3), pN_of f4, pN_of f5]
  simp only [List.append_assoc]
theorem recall_inv {q : PK} {o : OBs} {r : List UInt8} (h : (rRecall q o).2 = some r) : ∃ xs, o = some (xs ++ r) ∧ ∀ pre, bRecall (rRecall q o).1 (some pre) = some (pre ++ xs) := by
  obtain ⟨y0, e0, f0, -, -, d0⟩ := rNr_some (show rNr o 1 = some r from h)
  exact ⟨leB (rN o 1).toNat 1, e0.trans (congrArg some d0), fun pre => pN_of f0 pre⟩
theorem names_inv (k : Nat) : ∀ {o : OBs} {r : List UInt8}, (rNames true k o).2 = some r → ∃ xs, o = some (xs ++ r) ∧ (rNames true k o).1.length = k ∧ ∀ pre, pTs (some pre) (rNames true k o).1 = some (pre ++ xs) := by
  induction k with
  | zero => intro o r h; exact ⟨[], h, rfl, fun pre => by rw [List.append_nil]; rfl⟩
  | succ k ih =>
    intro o r h
    cases o with
    | none => cases h
    | some b =>
      obtain ⟨xs, h1, h2, h3⟩ := ih (show (rNames true k (rTr (some b) 1 (mo true 12))).2 = some r from h)
      obtain ⟨y, e, f, m, d⟩ := rTr_some h1
      refine ⟨_, by rw [e, d, ← List.append_assoc, ← List.append_assoc], by show (_ :: _).length = _; rw [List.length_cons, h2], fun pre => ?_⟩
      show pTs (pT (some pre) _ 1 12) _ = _
      rw [pT_of f (show _ ≤ (12 : Int) from m), h3]
      simp only [List.append_assoc]
theorem rtold_inv {q : PK} {o : OBs} {r : List UInt8} (h : (rRTold true q o).2 = some r) : ∃ xs, o = some (xs ++ r) ∧ ∀ pre, bRTold (rRTold true q o).1 (some pre) = some (pre ++ xs) := by
  obtain ⟨zs, h1, h2, h3⟩ := names_inv _ (show (rNames true _ _).2 = some r from h)
  obtain ⟨hm, h1⟩ := gd_some h1
  obtain ⟨y15, e15, f15, p15, -, d15⟩ := rNr_some h1
  obtain ⟨y14, e14, f14, -, -, d14⟩ := rNr_some e15
  obtain ⟨y13, e13, f13, -, -, d13⟩ := rNr_some e14
  obtain ⟨y12, e12, f12, -, -, d12⟩ := rNr_some e13
  obtain ⟨y11, e11, f11, -, -, d11⟩ := rNr_some e12
  obtain ⟨y10, e10, f10, -, -, d10⟩ := rNr_some e11
  obtain ⟨y9, e9, f9, -, -, d9⟩ := rNr_some e10
  obtain ⟨y8, e8, f8, -, -, d8⟩ := rNr_some e9
  obtain ⟨y7, e7, f7, -, -, d7⟩ := rNr_some e8
  obtain ⟨y6, e6, f6, -, -, d6⟩ := rNr_some e7
  obtain ⟨y5, e5, f5, -, -, d5⟩ := rNr_some e6
  obtain ⟨y4, e4, f4, -, -, d4⟩ := rNr_some e5
  obtain ⟨y3, e3, f3, -, -, d3⟩ := rNr_some e4
  obtain ⟨y2, e2, f2, -, -, d2⟩ := rNr_some e3
  obtain ⟨y1, e1, f1, -, -, d1⟩ := rNr_some e2
  obtain ⟨y0, e0, f0, -, -, d0⟩ := rNr_some e1
  refine ⟨_, by rw [e0, d0, d1, d2, d3, d4, d5, d6, d7, d8, d9, d10, d11, d12, d13, d14, d15]; simp only [← List.append_assoc]; rfl, fun pre => ?_⟩
  unfold bRTold bRTold0 rRTold
  simp only
  have hm' : decide (rN (rNr (rNr (rNr (rNr (rNr (rNr (rNr (rNr (rNr (rNr (rNr (rNr (rNr (rNr (rNr o 1) 1) 1) 8) 4) 1) 1) 2) 1) 1) 2) 1) 1) 1) 1) 1 ≤ 16) = true := by simpa using hm
  have hl := h2
  rw [hl, pN_of f0, pN_of f1, pN_of f2, pN_of f3, pN_of f4, pN_of f5, pN_of f6, pN_of f7, pN_of f8, pN_of f9, pN_of f10, pN_of f11, pN_of f12, pN_of f13, pN_of f14, gd_of (decide_eq_true (by have := of_decide_eq_true hm'; omega)), Int.toNat_of_nonneg p15, pN_of f15, h3]
  simp only [List.append_assoc]
theorem pT_none (s : ByteArray) (w : Nat) (m : Int) : pT none s w m = none := by
  unfold pT gd
  split <;> rfl
theorem pTs_none (l : List ByteArray) : pTs none l = none := by
  induction l with
  | nil => rfl
  | cons a l ih => show pTs (pT none a 1 12) l = none; rw [pT_none]; exact ih
section
variable {p : PK}
theorem kind1 (h : p.kind = 1) : innerP p = bAsk p (headP p) ∧ normP p = { kind := p.kind, client := p.client, epoch := p.epoch, seq := p.seq, op := p.op, at_ := p.at_, n := p.n, data := p.data, old := p.old, new := p.new } := by
  unfold innerP normP; exact ⟨if_pos h, if_pos h⟩
theorem kind2 (h : p.kind = 2) : innerP p = bTold p (headP p) ∧ normP p = { kind := p.kind, client := p.client, epoch := p.epoch, seq := p.seq, op := p.op, errno := p.errno, data := p.data, old := p.old } := by
  unfold innerP normP
  refine ⟨?_, ?_⟩
  · rw [if_neg (by omega)]; exact if_pos h
  · rw [if_neg (by omega)]; exact if_pos h
theorem kind3 (h : p.kind = 3) : innerP p = bRAsk p (headP p) ∧ normP p = { kind := p.kind, client := p.client, epoch := p.epoch, seq := p.seq, op := p.op, ino := p.ino, path := p.path, path2 := p.path2, flags := p.flags, cn := p.cn } := by
  unfold innerP normP
  refine ⟨?_, ?_⟩
  · rw [if_neg (by omega), if_neg (by omega)]; exact if_pos h
  · rw [if_neg (by omega), if_neg (by omega)]; exact if_pos h
theorem kind4 (h : p.kind = 4) : innerP p = bRTold p (headP p) ∧ normP p = { kind := p.kind, client := p.client, epoch := p.epoch, seq := p.seq, op := p.op, errno := p.errno, ino := p.ino, wrote := p.wrote, at_ := p.at_, ikind := p.ikind, ilinks := p.ilinks, isize := p.isize, nkind := p.nkind, nlinks := p.nlinks, nsize := p.nsize, b0 := p.b0, b1 := p.b1, b2 := p.b2, b3 := p.b3, names := p.names } := by
  unfold innerP normP
  refine ⟨?_, ?_⟩
  · rw [if_neg (by omega), if_neg (by omega), if_neg (by omega)]; exact if_pos h
  · rw [if_neg (by omega), if_neg (by omega), if_neg (by omega)]; exact if_pos h
theorem kind5 (h : p.kind = 5) : innerP p = bRecall p (headP p) ∧ normP p = { kind := p.kind, client := p.client, epoch := p.epoch, seq := p.seq, ino := p.ino } := by
  unfold innerP normP
  refine ⟨?_, ?_⟩
  · rw [if_neg (by omega), if_neg (by omega), if_neg (by omega), if_neg (by omega)]; exact if_pos h
  · rw [if_neg (by omega), if_neg (by omega), if_neg (by omega), if_neg (by omega)]; exact if_pos h
theorem kind0 (h : ¬ (1 ≤ p.kind ∧ p.kind ≤ 5)) : innerP p = none := by
  unfold innerP
  rw [if_neg (by omega), if_neg (by omega), if_neg (by omega), if_neg (by omega), if_neg (by omega)]
end
theorem head_inv {b r : List UInt8} (h : rHeadR (some b) = some r) : ∃ xs, b = xs ++ r ∧ (cliB (rHead (some b)).client = true → ∀ p : PK, p.kind = (rHead (some b)).kind → p.client = (rHead (some b)).client → p.epoch = (rHead (some b)).epoch → p.seq = (rHead (some b)).seq → headP p = some xs) := by
  obtain ⟨y3, e3, f3, -, -, d3⟩ := rNr_some (show rNr _ 8 = some r from h)
  obtain ⟨y2, e2, f2, -, -, d2⟩ := rNr_some e3
  obtain ⟨y1, e1, f1, -, -, d1⟩ := rNr_some e2
  obtain ⟨y0, e0, f0, -, -, d0⟩ := rNr_some e1
  injection e0 with e0
  refine ⟨leB (rN (some b) 1).toNat 1 ++ leB (rN (rNr (some b) 1) 1).toNat 1 ++ leB (rN (rNr (rNr (some b) 1) 1) 4).toNat 4 ++ leB (rN (rNr (rNr (rNr (some b) 1) 1) 4) 8).toNat 8, ?_, fun hc p h1 h2 h3 h4 => ?_⟩
  · refine e0.trans (d0.trans ?_)
    rw [d1, d2, d3]
    simp only [List.append_assoc]
  · unfold headP
    rw [h1, h2, h3, h4, gd_of hc]
    unfold rHead
    simp only
    rw [pN_of f0, pN_of f1, pN_of f2, pN_of f3, List.nil_append]
theorem parse_inv {b : List UInt8} (h : okP b = true) : innerP (parseP true b).1 = some b ∧ normP (parseP true b).1 = (parseP true b).1 := by
  unfold okP at h
  rw [Bool.and_eq_true, decide_eq_true_iff] at h
  obtain ⟨h, hc⟩ := h
  have hcl : (parseP true b).1.client = (rHead (some b)).client := by
    unfold parseP rBody
    repeat' split
    all_goals rfl
  rw [hcl] at hc
  have hd : ∀ {xs : List UInt8}, rHeadR (some b) = some (xs ++ []) → ∃ ys, b = ys ++ xs ∧ ∀ p : PK, p.kind = (rHead (some b)).kind → p.client = (rHead (some b)).client → p.epoch = (rHead (some b)).epoch → p.seq = (rHead (some b)).seq → headP p = some ys := by
    intro xs hx
    rw [List.append_nil] at hx
    obtain ⟨ys, h1, h2⟩ := head_inv hx
    exact ⟨ys, h1, h2 hc⟩
  unfold parseP rBody at h ⊢
  by_cases k1 : (rHead (some b)).kind = 1
  · rw [if_pos k1] at h ⊢
    obtain ⟨xs, h1, h2⟩ := ask_inv h
    obtain ⟨ys, h3, h4⟩ := hd h1
    obtain ⟨i1, i2⟩ := kind1 (p := (rAsk true (rHead (some b)) (rHeadR (some b))).1) k1
    rw [i1, i2, h4 (rAsk true (rHead (some b)) (rHeadR (some b))).1 rfl rfl rfl rfl, h2, ← h3]
    exact ⟨rfl, rfl⟩
  rw [if_neg k1] at h ⊢
  by_cases k2 : (rHead (some b)).kind = 2
  · rw [if_pos k2] at h ⊢
    obtain ⟨xs, h1, h2⟩ := told_inv h
    obtain ⟨ys, h3, h4⟩ := hd h1
    obtain ⟨i1, i2⟩ := kind2 (p := (rTold true (rHead (some b)) (rHeadR (some b))).1) k2
    rw [i1, i2, h4 (rTold true (rHead (some b)) (rHeadR (some b))).1 rfl rfl rfl rfl, h2, ← h3]
    exact ⟨rfl, rfl⟩
  rw [if_neg k2] at h ⊢
  by_cases k3 : (rHead (some b)).kind = 3
  · rw [if_pos k3] at h ⊢
    obtain ⟨xs, h1, h2⟩ := rask_inv h
    obtain ⟨ys, h3, h4⟩ := hd h1
    obtain ⟨i1, i2⟩ := kind3 (p := (rRAsk true (rHead (some b)) (rHeadR (some b))).1) k3
    rw [i1, i2, h4 (rRAsk true (rHead (some b)) (rHeadR (some b))).1 rfl rfl rfl rfl, h2, ← h3]
    exact ⟨rfl, rfl⟩
  rw [if_neg k3] at h ⊢
  by_cases k4 : (rHead (some b)).kind = 4
  · rw [if_pos k4] at h ⊢
    obtain ⟨xs, h1, h2⟩ := rtold_inv h
    obtain ⟨ys, h3, h4⟩ := hd h1
    obtain ⟨i1, i2⟩ := kind4 (p := (rRTold true (rHead (some b)) (rHeadR (some b))).1) k4
    rw [i1, i2, h4 (rRTold true (rHead (some b)) (rHeadR (some b))).1 rfl rfl rfl rfl, h2, ← h3]
    exact ⟨rfl, rfl⟩
  rw [if_neg k4] at h ⊢
  by_cases k5 : (rHead (some b)).kind = 5
  · rw [if_pos k5] at h ⊢
    obtain ⟨xs, h1, h2⟩ := recall_inv h
    obtain ⟨ys, h3, h4⟩ := hd h1
    obtain ⟨i1, i2⟩ := kind5 (p := (rRecall (rHead (some b)) (rHeadR (some b))).1) k5
    rw [i1, i2, h4 (rRecall (rHead (some b)) (rHeadR (some b))).1 rfl rfl rfl rfl, h2, ← h3]
    exact ⟨rfl, rfl⟩
  · rw [if_neg k5] at h
    cases h

/-- What can be put is read. -/
theorem fits_small {n : Int} {w : Nat} (h : fitsB n w = true) (hw : w = 1 ∨ w = 2 ∨ w = 4) : n ≤ 9223372036854775807 := by
  simp only [fitsB, decide_eq_true_eq] at h
  omega
theorem ask_fwd {p : PK} {o : OBs} {l : List UInt8} (h : bAsk p o = some l) (hw : p.wide) : ∃ pre xs, o = some pre ∧ l = pre ++ xs ∧ ∀ (q : PK) r, rAsk true q (some (xs ++ r)) = ({ q with op := p.op, at_ := p.at_, n := p.n, data := p.data, old := p.old, new := p.new }, some r) := by
  obtain ⟨-, w2, w3, -⟩ := hw
  obtain ⟨y6, e6, f6, d6⟩ := pN_some h
  obtain ⟨y5, e5, f5, d5⟩ := pN_some e6
  obtain ⟨y4, e4, m4, f4, d4⟩ := pT_some e5
  obtain ⟨y3, e3, f3, d3⟩ := pN_some e4
  obtain ⟨y2, e2, f2, d2⟩ := pN_some e3
  obtain ⟨y1, e1, f1, d1⟩ := pN_some e2
  obtain ⟨hv, e0⟩ := gd_some e1
  refine ⟨_, leB p.op.toNat 1 ++ (leB p.at_.toNat 4 ++ (leB p.n.toNat 2 ++ (leB p.data.size 2 ++ (p.data.data.toList ++ (leB p.old.toNat 8 ++ leB p.new.toNat 8))))), e0, ?_, fun q r => ?_⟩
  · rw [d6, d5, d4, d3, d2, d1]; simp only [List.append_assoc]
  · unfold rAsk
    simp only [List.append_assoc]
    rw [(rN_of f1 (fits_small f1 (.inl rfl)) _).1, (rN_of f1 (fits_small f1 (.inl rfl)) _).2, (rN_of f2 (fits_small f2 (.inr (.inr rfl))) _).1, (rN_of f2 (fits_small f2 (.inr (.inr rfl))) _).2, (rN_of f3 (fits_small f3 (.inr (.inl rfl))) _).1, (rN_of f3 (fits_small f3 (.inr (.inl rfl))) _).2,
      (rT_of f4 (show _ ≤ mo true 128 from m4) (by omega) _).1, (rT_of f4 (show _ ≤ mo true 128 from m4) (by omega) _).2, (rN_of f5 w2 _).1, (rN_of f5 w2 _).2, (rN_of f6 w3 _).1, (rN_of f6 w3 _).2, gd_of (by rw [hv]; rfl)]
theorem told_fwd {p : PK} {o : OBs} {l : List UInt8} (h : bTold p o = some l) (hw : p.wide) : ∃ pre xs, o = some pre ∧ l = pre ++ xs ∧ ∀ (q : PK) r, rTold true q (some (xs ++ r)) = ({ q with op := p.op, errno := p.errno, data := p.data, old := p.old }, some r) := by
  obtain ⟨-, w2, -, -⟩ := hw
  obtain ⟨y4, e4, f4, d4⟩ := pN_some h
  obtain ⟨y3, e3, m3, f3, d3⟩ := pT_some e4
  obtain ⟨y2, e2, f2, d2⟩ := pN_some e3
  obtain ⟨y1, e1, f1, d1⟩ := pN_some e2
  obtain ⟨hv, e0⟩ := gd_some e1
  refine ⟨_, leB p.op.toNat 1 ++ (leB p.errno.toNat 1 ++ (leB p.data.size 2 ++ (p.data.data.toList ++ leB p.old.toNat 8))), e0, ?_, fun q r => ?_⟩
  · rw [d4, d3, d2, d1]; simp only [List.append_assoc]
  · unfold rTold
    simp only [List.append_assoc]
    rw [(rN_of f1 (fits_small f1 (.inl rfl)) _).1, (rN_of f1 (fits_small f1 (.inl rfl)) _).2, (rN_of f2 (fits_small f2 (.inl rfl)) _).1, (rN_of f2 (fits_small f2 (.inl rfl)) _).2,
      (rT_of f3 (show _ ≤ mo true 128 from m3) (by omega) _).1, (rT_of f3 (show _ ≤ mo true 128 from m3) (by omega) _).2, (rN_of f4 w2 _).1, (rN_of f4 w2 _).2, gd_of (by rw [hv]; rfl)]
theorem rask_fwd {p : PK} {o : OBs} {l : List UInt8} (h : bRAsk p o = some l) : ∃ pre xs, o = some pre ∧ l = pre ++ xs ∧ ∀ (q : PK) r, rRAsk true q (some (xs ++ r)) = ({ q with op := p.op, ino := p.ino, path := p.path, path2 := p.path2, flags := p.flags, cn := p.cn }, some r) := by
  obtain ⟨y6, e6, f6, d6⟩ := pN_some h
  obtain ⟨y5, e5, f5, d5⟩ := pN_some e6
  obtain ⟨y4, e4, m4, f4, d4⟩ := pT_some e5
  obtain ⟨y3, e3, m3, f3, d3⟩ := pT_some e4
  obtain ⟨y2, e2, f2, d2⟩ := pN_some e3
  obtain ⟨y1, e1, f1, d1⟩ := pN_some e2
  refine ⟨_, leB p.op.toNat 1 ++ (leB p.ino.toNat 1 ++ (leB p.path.size 1 ++ (p.path.data.toList ++ (leB p.path2.size 1 ++ (p.path2.data.toList ++ (leB p.flags.toNat 1 ++ leB p.cn.toNat 4)))))), e1, ?_, fun q r => ?_⟩
  · rw [d6, d5, d4, d3, d2, d1]; simp only [List.append_assoc]
  · unfold rRAsk
    simp only [List.append_assoc]
    rw [(rN_of f1 (fits_small f1 (.inl rfl)) _).1, (rN_of f1 (fits_small f1 (.inl rfl)) _).2, (rN_of f2 (fits_small f2 (.inl rfl)) _).1, (rN_of f2 (fits_small f2 (.inl rfl)) _).2,
      (rT_of f3 (show _ ≤ mo true 100 from m3) (by omega) _).1, (rT_of f3 (show _ ≤ mo true 100 from m3) (by omega) _).2, (rT_of f4 (show _ ≤ mo true 100 from m4) (by omega) _).1, (rT_of f4 (show _ ≤ mo true 100 from m4) (by omega) _).2,
      (rN_of f5 (fits_small f5 (.inl rfl)) _).1, (rN_of f5 (fits_small f5 (.inl rfl)) _).2, (rN_of f6 (fits_small f6 (.inr (.inr rfl))) _).1, (rN_of f6 (fits_small f6 (.inr (.inr rfl))) _).2]
theorem names_fwd (l : List ByteArray) : ∀ {pre out : List UInt8}, pTs (some pre) l = some out → ∃ xs, out = pre ++ xs ∧ ∀ r, rNames true l.length (some (xs ++ r)) = (l, some r) := by
  induction l with
  | nil => intro pre out h; injection h with h; exact ⟨[], by rw [← h, List.append_nil], fun r => rfl⟩
  | cons s l ih =>
    intro pre out h
    have h' : pTs (pT (some pre) s 1 12) l = some out := h
    cases hs : pT (some pre) s 1 12 with
    | none =>
      exfalso
      rw [hs] at h'
      rw [pTs_none] at h'
      cases h'
    | some y =>
      rw [hs] at h'
      obtain ⟨xs, d, hx⟩ := ih h'
      obtain ⟨y0, e0, m0, f0, d0⟩ := pT_some hs
      injection e0 with e0
      refine ⟨leB s.size 1 ++ (s.data.toList ++ xs), by rw [d, d0, ← e0]; simp only [List.append_assoc], fun r => ?_⟩
      have q1 := rT_of f0 (show _ ≤ mo true 12 from m0) (by omega) (xs ++ r)
      show (rTs _ 1 (mo true 12) :: (rNames true l.length (rTr _ 1 (mo true 12))).1, (rNames true l.length (rTr _ 1 (mo true 12))).2) = _
      simp only [List.append_assoc]
      rw [q1.1, q1.2, hx]
theorem recall_fwd {p : PK} {o : OBs} {l : List UInt8} (h : bRecall p o = some l) : ∃ pre xs, o = some pre ∧ l = pre ++ xs ∧ ∀ (q : PK) r, rRecall q (some (xs ++ r)) = ({ q with ino := p.ino }, some r) := by
  obtain ⟨y, e, f, d⟩ := pN_some h
  refine ⟨_, _, e, d, fun q r => ?_⟩
  unfold rRecall
  rw [(rN_of f (fits_small f (.inl rfl)) _).1, (rN_of f (fits_small f (.inl rfl)) _).2]
theorem rtold_fwd {p : PK} {o : OBs} {l : List UInt8} (h : bRTold p o = some l) (hw : p.wide) : ∃ pre xs, o = some pre ∧ l = pre ++ xs ∧ ∀ (q : PK) r, rRTold true q (some (xs ++ r)) = ({ q with op := p.op, errno := p.errno, ino := p.ino, wrote := p.wrote, at_ := p.at_, ikind := p.ikind, ilinks := p.ilinks, isize := p.isize, nkind := p.nkind, nlinks := p.nlinks, nsize := p.nsize, b0 := p.b0, b1 := p.b1, b2 := p.b2, b3 := p.b3, names := p.names }, some r) := by
  obtain ⟨-, -, -, w4⟩ := hw
  obtain ⟨z, hz⟩ : ∃ z, pN (gd (decide (p.names.length ≤ 16)) (bRTold0 p o)) (p.names.length : Nat) 1 = some z := by
    cases hc : pN (gd (decide (p.names.length ≤ 16)) (bRTold0 p o)) (p.names.length : Nat) 1 with
    | some z => exact ⟨z, rfl⟩
    | none =>
      exfalso
      unfold bRTold at h
      rw [hc, pTs_none] at h
      cases h
  unfold bRTold at h
  rw [hz] at h
  obtain ⟨zs, dz, hn⟩ := names_fwd _ h
  obtain ⟨y15, e15, f16, d16⟩ := pN_some hz
  obtain ⟨hm, e15⟩ := gd_some e15
  obtain ⟨y14, e14, f15, d15⟩ := pN_some e15
  obtain ⟨y13, e13, f14, d14⟩ := pN_some e14
  obtain ⟨y12, e12, f13, d13⟩ := pN_some e13
  obtain ⟨y11, e11, f12, d12⟩ := pN_some e12
  obtain ⟨y10, e10, f11, d11⟩ := pN_some e11
  obtain ⟨y9, e9, f10, d10⟩ := pN_some e10
  obtain ⟨y8, e8, f9, d9⟩ := pN_some e9
  obtain ⟨y7, e7, f8, d8⟩ := pN_some e8
  obtain ⟨y6, e6, f7, d7⟩ := pN_some e7
  obtain ⟨y5, e5, f6, d6⟩ := pN_some e6
  obtain ⟨y4, e4, f5, d5⟩ := pN_some e5
  obtain ⟨y3, e3, f4, d4⟩ := pN_some e4
  obtain ⟨y2, e2, f3, d3⟩ := pN_some e3
  obtain ⟨y1, e1, f2, d2⟩ := pN_some e2
  obtain ⟨y0, e0, f1, d1⟩ := pN_some e1
  have a1 := fun r => rN_of f1 (fits_small f1 (.inl rfl)) r
  have a2 := fun r => rN_of f2 (fits_small f2 (.inl rfl)) r
  have a3 := fun r => rN_of f3 (fits_small f3 (.inl rfl)) r
  have a4 := fun r => rN_of f4 w4 r
  have a5 := fun r => rN_of f5 (fits_small f5 (.inr (.inr rfl))) r
  have a6 := fun r => rN_of f6 (fits_small f6 (.inl rfl)) r
  have a7 := fun r => rN_of f7 (fits_small f7 (.inl rfl)) r
  have a8 := fun r => rN_of f8 (fits_small f8 (.inr (.inl rfl))) r
  have a9 := fun r => rN_of f9 (fits_small f9 (.inl rfl)) r
  have a10 := fun r => rN_of f10 (fits_small f10 (.inl rfl)) r
  have a11 := fun r => rN_of f11 (fits_small f11 (.inr (.inl rfl))) r
  have a12 := fun r => rN_of f12 (fits_small f12 (.inl rfl)) r
  have a13 := fun r => rN_of f13 (fits_small f13 (.inl rfl)) r
  have a14 := fun r => rN_of f14 (fits_small f14 (.inl rfl)) r
  have a15 := fun r => rN_of f15 (fits_small f15 (.inl rfl)) r
  have a16 := fun r => rN_of f16 (fits_small f16 (.inl rfl)) r
  refine ⟨y0, leB p.op.toNat 1 ++ (leB p.errno.toNat 1 ++ (leB p.ino.toNat 1 ++ (leB p.wrote.toNat 8 ++ (leB p.at_.toNat 4 ++ (leB p.ikind.toNat 1 ++ (leB p.ilinks.toNat 1 ++ (leB p.isize.toNat 2 ++ (leB p.nkind.toNat 1 ++ (leB p.nlinks.toNat 1 ++ (leB p.nsize.toNat 2 ++ (leB p.b0.toNat 1 ++ (leB p.b1.toNat 1 ++ (leB p.b2.toNat 1 ++ (leB p.b3.toNat 1 ++ (leB (p.names.length : Int).toNat 1 ++ zs))))))))))))))), e0, ?_, fun q r => ?_⟩
  · rw [dz, d16, d15, d14, d13, d12, d11, d10, d9, d8, d7, d6, d5, d4, d3, d2, d1]; simp only [List.append_assoc]
  · unfold rRTold
    simp only [List.append_assoc]
    rw [(a1 _).1, (a1 _).2, (a2 _).1, (a2 _).2, (a3 _).1, (a3 _).2, (a4 _).1, (a4 _).2, (a5 _).1, (a5 _).2, (a6 _).1, (a6 _).2, (a7 _).1, (a7 _).2, (a8 _).1, (a8 _).2, (a9 _).1, (a9 _).2, (a10 _).1, (a10 _).2, (a11 _).1, (a11 _).2, (a12 _).1, (a12 _).2, (a13 _).1, (a13 _).2, (a14 _).1, (a14 _).2, (a15 _).1, (a15 _).2, (a16 _).1, (a16 _).2]
    have hm' : decide ((p.names.length : Int) ≤ 16) = true := decide_eq_true (by have := of_decide_eq_true hm; omega)
    rw [gd_of (by rw [hm']; rfl), Int.toNat_natCast, hn]
theorem head_fwd {p : PK} {l : List UInt8} (h : headP p = some l) (hw : p.wide) : cliB p.client = true ∧ ∀ r, rHead (some (l ++ r)) = { kind := p.kind, client := p.client, epoch := p.epoch, seq := p.seq } ∧ rHeadR (some (l ++ r)) = some r := by
  obtain ⟨w1, -, -, -⟩ := hw
  obtain ⟨y4, e4, f4, d4⟩ := pN_some h
  obtain ⟨y3, e3, f3, d3⟩ := pN_some e4
  obtain ⟨y2, e2, f2, d2⟩ := pN_some e3
  obtain ⟨y1, e1, f1, d1⟩ := pN_some e2
  obtain ⟨hc, e0⟩ := gd_some e1
  injection e0 with e0
  have a1 := fun r => rN_of f1 (fits_small f1 (.inl rfl)) r
  have a2 := fun r => rN_of f2 (fits_small f2 (.inl rfl)) r
  have a3 := fun r => rN_of f3 (fits_small f3 (.inr (.inr rfl))) r
  have a4 := fun r => rN_of f4 w1 r
  refine ⟨hc, fun r => ?_⟩
  rw [d4, d3, d2, d1, ← e0]
  simp only [List.append_assoc, List.nil_append]
  unfold rHead rHeadR
  rw [(a1 _).1, (a1 _).2, (a2 _).1, (a2 _).2, (a3 _).1, (a3 _).2, (a4 _).1, (a4 _).2]
  exact ⟨rfl, rfl⟩
theorem parse_put {p : PK} {l : List UInt8} (h : innerP p = some l) (hw : p.wide) : parseP true l = (normP p, some []) ∧ cliB p.client = true := by
  have hk : 1 ≤ p.kind ∧ p.kind ≤ 5 := by
    by_cases hk : 1 ≤ p.kind ∧ p.kind ≤ 5
    · exact hk
    · rw [kind0 hk] at h; cases h
  have main : ∀ (f : PK → OBs → PK × OBs) (pre xs : List UInt8), headP p = some pre → l = pre ++ xs → (rBody true (rHead (some l)) (some xs) = (normP p, some [])) → parseP true l = (normP p, some []) ∧ cliB p.client = true := by
    intro f pre xs h1 h2 h3
    obtain ⟨hc, hr⟩ := head_fwd h1 hw
    refine ⟨?_, hc⟩
    unfold parseP
    rw [← h3]
    congr 1
    rw [h2]
    exact (hr xs).2
  have hkd : ∀ pre xs, headP p = some pre → l = pre ++ xs → rHead (some l) = { kind := p.kind, client := p.client, epoch := p.epoch, seq := p.seq } := fun pre xs h1 h2 => by rw [h2]; exact ((head_fwd h1 hw).2 xs).1
  have hcase : p.kind = 1 ∨ p.kind = 2 ∨ p.kind = 3 ∨ p.kind = 4 ∨ p.kind = 5 := by omega
  rcases hcase with k | k | k | k | k
  · obtain ⟨i1, i2⟩ := kind1 k
    rw [i1] at h
    obtain ⟨pre, xs, h1, h2, h3⟩ := ask_fwd h hw
    refine main (rAsk true) pre xs h1 h2 ?_
    have := h3 (rHead (some l)) []
    rw [List.append_nil] at this
    unfold rBody
    rw [hkd pre xs h1 h2] at this ⊢
    rw [if_pos k, this, i2]
  · obtain ⟨i1, i2⟩ := kind2 k
    rw [i1] at h
    obtain ⟨pre, xs, h1, h2, h3⟩ := told_fwd h hw
    refine main (rTold true) pre xs h1 h2 ?_
    have := h3 (rHead (some l)) []
    rw [List.append_nil] at this
    unfold rBody
    rw [hkd pre xs h1 h2] at this ⊢
    rw [if_neg (show ¬ p.kind = 1 by omega), if_pos k, this, i2]
  · obtain ⟨i1, i2⟩ := kind3 k
    rw [i1] at h
    obtain ⟨pre, xs, h1, h2, h3⟩ := rask_fwd h
    refine main (rRAsk true) pre xs h1 h2 ?_
    have := h3 (rHead (some l)) []
    rw [List.append_nil] at this
    unfold rBody
    rw [hkd pre xs h1 h2] at this ⊢
    rw [if_neg (show ¬ p.kind = 1 by omega), if_neg (show ¬ p.kind = 2 by omega), if_pos k, this, i2]
  · obtain ⟨i1, i2⟩ := kind4 k
    rw [i1] at h
    obtain ⟨pre, xs, h1, h2, h3⟩ := rtold_fwd h hw
    refine main (rRTold true) pre xs h1 h2 ?_
    have := h3 (rHead (some l)) []
    rw [List.append_nil] at this
    unfold rBody
    rw [hkd pre xs h1 h2] at this ⊢
    rw [if_neg (show ¬ p.kind = 1 by omega), if_neg (show ¬ p.kind = 2 by omega), if_neg (show ¬ p.kind = 3 by omega), if_pos k, this, i2]
  · obtain ⟨i1, i2⟩ := kind5 k
    rw [i1] at h
    obtain ⟨pre, xs, h1, h2, h3⟩ := recall_fwd h
    refine main rRecall pre xs h1 h2 ?_
    have := h3 (rHead (some l)) []
    rw [List.append_nil] at this
    unfold rBody
    rw [hkd pre xs h1 h2] at this ⊢
    rw [if_neg (show ¬ p.kind = 1 by omega), if_neg (show ¬ p.kind = 2 by omega), if_neg (show ¬ p.kind = 3 by omega), if_neg (show ¬ p.kind = 4 by omega), if_pos k, this, i2]
end Go.Proofs.Ytdlcpfgogjcciaa

namespace Go.Proofs.Ytdlcpfgogjcciaa

theorem rT_size {o : OBs} {w : Nat} {most : Int} {r : List UInt8} (h : rTr o w most = some r) : (((rTs o w most).size : Nat) : Int) = rN o w ∧ rN o w ≤ most := by
  unfold rTr at h
  obtain ⟨b, h1, h2⟩ := Option.bind_eq_some_iff.1 h
  obtain ⟨bs, rfl, f1, f2, f3, f4⟩ := rNr_some h1
  split at h2
  · rename_i hc
    have e : rTs (some bs) w most = ⟨(b.take (rN (some bs) w).toNat).toArray⟩ := by
      unfold rTs
      rw [h1]
      show (if _ then _ else _) = _
      rw [if_pos hc]
    refine ⟨?_, hc.1⟩
    rw [e]
    simp only [ByteArray.size, List.size_toArray, List.length_take]
    omega
  · cases h2
theorem rT_lim {o : OBs} {w : Nat} {m : Int} {r : List UInt8} (h : rTr o w (mo true m) = some r) (hm : m ≤ 9223372036854775807) : rTr o w (mo false m) = some r ∧ rTs o w (mo false m) = rTs o w (mo true m) := by
  unfold rTr at h
  obtain ⟨b, h1, h2⟩ := Option.bind_eq_some_iff.1 h
  unfold rTr rTs
  rw [h1]
  split at h2
  · rename_i hc
    have hc' : rN o w ≤ mo false m ∧ rN o w ≤ (b.length : Int) := ⟨by have := hc.1; unfold mo at this ⊢; simp at this ⊢; omega, hc.2⟩
    simp only [Option.bind_some, Option.elim_some]
    rw [if_pos hc', if_pos hc', if_pos hc]
    exact ⟨h2, rfl⟩
  · cases h2
theorem rT_lim2 {o : OBs} {w : Nat} {m : Int} {r : List UInt8} (h : rTr o w (mo false m) = some r) (hs : ((rTs o w (mo false m)).size : Int) ≤ m) : rTr o w (mo true m) = some r ∧ rTs o w (mo true m) = rTs o w (mo false m) := by
  obtain ⟨e1, e2⟩ := rT_size h
  unfold rTr at h
  obtain ⟨b, h1, h2⟩ := Option.bind_eq_some_iff.1 h
  unfold rTr rTs
  rw [h1]
  split at h2
  · rename_i hc
    have hc' : rN o w ≤ mo true m ∧ rN o w ≤ (b.length : Int) := ⟨by unfold mo; simp; omega, hc.2⟩
    simp only [Option.bind_some, Option.elim_some]
    rw [if_pos hc', if_pos hc', if_pos hc]
    exact ⟨h2, rfl⟩
  · cases h2
theorem ask_lim {q : PK} {o : OBs} {r : List UInt8} (h : (rAsk true q o).2 = some r) : rAsk false q o = rAsk true q o := by
  obtain ⟨hv, h⟩ := gd_some h
  obtain ⟨y5, e5, -⟩ := rNr_some h
  obtain ⟨y4, e4, -⟩ := rNr_some e5
  obtain ⟨l1, l2⟩ := rT_lim e4 (by decide)
  unfold rAsk
  simp only
  rw [l1, l2, e4, hv]
  rfl
theorem told_lim {q : PK} {o : OBs} {r : List UInt8} (h : (rTold true q o).2 = some r) : rTold false q o = rTold true q o := by
  obtain ⟨hv, h⟩ := gd_some h
  obtain ⟨y4, e4, -⟩ := rNr_some h
  obtain ⟨l1, l2⟩ := rT_lim e4 (by decide)
  unfold rTold
  simp only
  rw [l1, l2, e4, hv]
  rfl
theorem rask_lim {q : PK} {o : OBs} {r : List UInt8} (h : (rRAsk true q o).2 = some r) : rRAsk false q o = rRAsk true q o := by
  obtain ⟨y5, e5, -⟩ := rNr_some (show rNr _ 4 = some r from h)
  obtain ⟨y4, e4, -⟩ := rNr_some e5
  obtain ⟨l1, l2⟩ := rT_lim e4 (by decide)
  obtain ⟨y3, e3, -⟩ := rTr_some e4
  obtain ⟨k1, k2⟩ := rT_lim e3 (by decide)
  unfold rRAsk
  simp only
  rw [k1, k2, e3]
  rw [e3] at l1 l2 e4
  rw [l1, l2, e4]
theorem names_lim (k : Nat) : ∀ {o : OBs} {r : List UInt8}, (rNames true k o).2 = some r → rNames false k o = rNames true k o := by
  induction k with
  | zero => intro o r h; rfl
  | succ k ih =>
    intro o r h
    cases o with
    | none => cases h
    | some b =>
      have h' : (rNames true k (rTr (some b) 1 (mo true 12))).2 = some r := h
      have ih' := ih h'
      cases hs : rTr (some b) 1 (mo true 12) with
      | none =>
        rw [hs] at h'
        cases k with
        | zero => cases h'
        | succ k => cases h'
      | some y =>
        obtain ⟨l1, l2⟩ := rT_lim hs (by decide)
        rw [hs] at ih'
        show (rTs (some b) 1 (mo false 12) :: (rNames false k (rTr (some b) 1 (mo false 12))).1, (rNames false k (rTr (some b) 1 (mo false 12))).2) = (rTs (some b) 1 (mo true 12) :: (rNames true k (rTr (some b) 1 (mo true 12))).1, (rNames true k (rTr (some b) 1 (mo true 12))).2)
        rw [l1, l2, hs, ih']
theorem rnames_none (L : Bool) (k : Nat) {r : List UInt8} {o : OBs} (h : (rNames L k o).2 = some r) : ∃ y, o = some y := by
  cases o with
  | some y => exact ⟨y, rfl⟩
  | none =>
    cases k with
    | zero => cases h
    | succ k => cases h
theorem rtold_lim {q : PK} {o : OBs} {r : List UInt8} (h : (rRTold true q o).2 = some r) : rRTold false q o = rRTold true q o := by
  have h' : (rNames true _ _).2 = some r := h
  have h2 := names_lim _ h'
  obtain ⟨y, hy⟩ := rnames_none true _ h'
  obtain ⟨hv, h3⟩ := gd_some hy
  unfold rRTold
  simp only
  rw [hv] at h2 ⊢
  rw [show ∀ x : Bool, (!false || x) = true from fun x => rfl, h2]
theorem parse_lim {b r : List UInt8} (h : (parseP true b).2 = some r) : parseP false b = parseP true b := by
  unfold parseP rBody at h ⊢
  by_cases k1 : (rHead (some b)).kind = 1
  · rw [if_pos k1] at h; rw [if_pos k1, if_pos k1]; exact ask_lim h
  rw [if_neg k1] at h; rw [if_neg k1, if_neg k1]
  by_cases k2 : (rHead (some b)).kind = 2
  · rw [if_pos k2] at h; rw [if_pos k2, if_pos k2]; exact told_lim h
  rw [if_neg k2] at h; rw [if_neg k2, if_neg k2]
  by_cases k3 : (rHead (some b)).kind = 3
  · rw [if_pos k3] at h; rw [if_pos k3, if_pos k3]; exact rask_lim h
  rw [if_neg k3] at h; rw [if_neg k3, if_neg k3]
  by_cases k4 : (rHead (some b)).kind = 4
  · rw [if_pos k4] at h; rw [if_pos k4, if_pos k4]; exact rtold_lim h
  rw [if_neg k4] at h; rw [if_neg k4, if_neg k4]
  by_cases k5 : (rHead (some b)).kind = 5
  · rw [if_pos k5, if_pos k5]
  · rw [if_neg k5] at h; cases h

/-- The limits, told by what was read. -/
theorem ask_lim2 {q : PK} {o o' : OBs} {r l : List UInt8} (h : (rAsk false q o).2 = some r) (hb : bAsk (rAsk false q o).1 o' = some l) : rAsk true q o = rAsk false q o := by
  obtain ⟨y6, e6, -⟩ := pN_some hb
  obtain ⟨y5, e5, -⟩ := pN_some e6
  obtain ⟨y4, e4, m4, -⟩ := pT_some e5
  obtain ⟨y3, e3, -⟩ := pN_some e4
  obtain ⟨y2, e2, -⟩ := pN_some e3
  obtain ⟨y1, e1, -⟩ := pN_some e2
  obtain ⟨hv, -⟩ := gd_some e1
  have hv' : verbB (rN o 1) = true := hv
  replace h : rNr _ 8 = some r := h
  obtain ⟨z5, d5, -⟩ := rNr_some h
  obtain ⟨z4, d4, -⟩ := rNr_some d5
  obtain ⟨l1, l2⟩ := rT_lim2 d4 m4
  unfold rAsk
  simp only
  rw [l1, l2, d4, hv']
  rfl
theorem told_lim2 {q : PK} {o o' : OBs} {r l : List UInt8} (h : (rTold false q o).2 = some r) (hb : bTold (rTold false q o).1 o' = some l) : rTold true q o = rTold false q o := by
  obtain ⟨y5, e5, -⟩ := pN_some hb
  obtain ⟨y4, e4, m4, -⟩ := pT_some e5
  obtain ⟨y3, e3, -⟩ := pN_some e4
  obtain ⟨y2, e2, -⟩ := pN_some e3
  obtain ⟨hv, -⟩ := gd_some e2
  have hv' : verbB (rN o 1) = true := hv
  replace h : rNr _ 8 = some r := h
  obtain ⟨z4, d4, -⟩ := rNr_some h
  obtain ⟨l1, l2⟩ := rT_lim2 d4 m4
  unfold rTold
  simp only
  rw [l1, l2, d4, hv']
  rfl
theorem rask_lim2 {q : PK} {o o' : OBs} {r l : List UInt8} (h : (rRAsk false q o).2 = some r) (hb : bRAsk (rRAsk false q o).1 o' = some l) : rRAsk true q o = rRAsk false q o := by
  obtain ⟨y6, e6, -⟩ := pN_some hb
  obtain ⟨y5, e5, -⟩ := pN_some e6
  obtain ⟨y4, e4, m4, -⟩ := pT_some e5
  obtain ⟨y3, e3, m3, -⟩ := pT_some e4
  obtain ⟨z5, d5, -⟩ := rNr_some (show rNr _ 4 = some r from h)
  obtain ⟨z4, d4, -⟩ := rNr_some d5
  obtain ⟨z3, d3, -⟩ := rTr_some d4
  obtain ⟨k1, k2⟩ := rT_lim2 d3 m3
  obtain ⟨l1, l2⟩ := rT_lim2 d4 m4
  unfold rRAsk
  simp only
  rw [k1, k2, d3]
  rw [d3] at l1 l2 d4
  rw [l1, l2, d4]
theorem names_lim2 (k : Nat) : ∀ {o : OBs} {r l : List UInt8} {o' : OBs}, (rNames false k o).2 = some r → pTs o' (rNames false k o).1 = some l → rNames true k o = rNames false k o := by
  induction k with
  | zero => intro o r l o' h hb; rfl
  | succ k ih =>
    intro o r l o' h hb
    cases o with
    | none => cases h
    | some b =>
      have h' : (rNames false k (rTr (some b) 1 (mo false 12))).2 = some r := h
      have hb' : pTs (pT o' (rTs (some b) 1 (mo false 12)) 1 12) (rNames false k (rTr (some b) 1 (mo false 12))).1 = some l := hb
      have ih' := ih h' hb'
      obtain ⟨y, hs⟩ := rnames_none false _ h'
      have hsz : ((rTs (some b) 1 (mo false 12)).size : Int) ≤ 12 := by
        cases hc : pT o' (rTs (some b) 1 (mo false 12)) 1 12 with
        | none => rw [hc, pTs_none] at hb'; cases hb'
        | some z => obtain ⟨_, _, m, _⟩ := pT_some hc; exact m
      obtain ⟨l1, l2⟩ := rT_lim2 hs hsz
      rw [hs] at ih'
      show (rTs (some b) 1 (mo true 12) :: (rNames true k (rTr (some b) 1 (mo true 12))).1, (rNames true k (rTr (some b) 1 (mo true 12))).2) = (rTs (some b) 1 (mo false 12) :: (rNames false k (rTr (some b) 1 (mo false 12))).1, (rNames false k (rTr (some b) 1 (mo false 12))).2)
      rw [l1, l2, hs, ih']
theorem rnames_len (L : Bool) (k : Nat) : ∀ {o : OBs} {r : List UInt8}, (rNames L k o).2 = some r → (rNames L k o).1.length = k := by
  induction k with
  | zero => intro o r h; rfl
  | succ k ih =>
    intro o r h
    cases o with
    | none => cases h
    | some b =>
      have h' : (rNames L k (rTr (some b) 1 (mo L 12))).2 = some r := h
      show (_ :: _).length = _
      rw [List.length_cons, ih h']
theorem rtold_lim2 {q : PK} {o o' : OBs} {r l : List UInt8} (h : (rRTold false q o).2 = some r) (hb : bRTold (rRTold false q o).1 o' = some l) : rRTold true q o = rRTold false q o := by
  have h' : (rNames false _ _).2 = some r := h
  have hlen := rnames_len false _ h'
  obtain ⟨y, hy⟩ := rnames_none false _ h'
  obtain ⟨-, h3⟩ := gd_some hy
  have hb' : pTs (pN (gd (decide ((rRTold false q o).1.names.length ≤ 16)) (bRTold0 (rRTold false q o).1 o')) ((rRTold false q o).1.names.length : Nat) 1) (rNames false _ _).1 = some l := hb
  have h2 := names_lim2 _ h' hb'
  have hm : (rRTold false q o).1.names.length ≤ 16 := by
    cases hc : pN (gd (decide ((rRTold false q o).1.names.length ≤ 16)) (bRTold0 (rRTold false q o).1 o')) ((rRTold false q o).1.names.length : Nat) 1 with
    | none => rw [hc, pTs_none] at hb'; cases hb'
    | some z =>
      obtain ⟨_, e, _⟩ := pN_some hc
      exact of_decide_eq_true (gd_some e).1
  have hm' := hlen ▸ hm
  obtain ⟨_, _, _, p15, _⟩ := rNr_some h3
  unfold rRTold
  simp only
  rw [show ∀ x : Bool, (!false || x) = true from fun x => rfl] at h2 ⊢
  have hv : ∀ m : Int, 0 ≤ m → m.toNat ≤ 16 → (!true || decide (m ≤ 16)) = true := fun m h0 h1 => by
    rw [decide_eq_true (by omega : m ≤ 16)]; rfl
  rw [hv _ p15 hm', h2]
/-- The document's way: the limits are looked at behind. -/
theorem parse_lim2 {b l : List UInt8} (h : (parseP false b).2 = some []) (hi : innerP (parseP false b).1 = some l) : parseP true b = parseP false b ∧ okP b = true := by
  have hk : 1 ≤ (parseP false b).1.kind ∧ (parseP false b).1.kind ≤ 5 := by
    by_cases hk : 1 ≤ (parseP false b).1.kind ∧ (parseP false b).1.kind ≤ 5
    · exact hk
    · rw [kind0 hk] at hi; cases hi
  have hcl : ∀ (p : PK) (o : OBs), headP p = o → (∃ y, o = some y) → cliB p.client = true := by
    rintro p o h1 ⟨y, rfl⟩
    obtain ⟨_, e4, _⟩ := pN_some h1
    obtain ⟨_, e3, _⟩ := pN_some e4
    obtain ⟨_, e2, _⟩ := pN_some e3
    obtain ⟨_, e1, _⟩ := pN_some e2
    exact (gd_some e1).1
  have main : parseP true b = parseP false b → cliB (parseP false b).1.client = true → parseP true b = parseP false b ∧ okP b = true := by
    intro h1 h2
    refine ⟨h1, ?_⟩
    unfold okP
    rw [h1, h, h2]
    rfl
  have hkind : (parseP false b).1.kind = (rHead (some b)).kind := by
    unfold parseP rBody
    repeat' split
    all_goals rfl
  have hcase : (parseP false b).1.kind = 1 ∨ (parseP false b).1.kind = 2 ∨ (parseP false b).1.kind = 3 ∨ (parseP false b).1.kind = 4 ∨ (parseP false b).1.kind = 5 := by omega
  rcases hcase with k | k | k | k | k
  · have k' := hkind.symm.trans k
    rw [(kind1 k).1] at hi
    have e : ∀ L, parseP L b = rAsk L (rHead (some b)) (rHeadR (some b)) := fun L => by unfold parseP rBody; rw [if_pos k']
    rw [e] at h hi
    have h1 := ask_lim2 h hi
    refine main (by rw [e, e, h1]) (hcl _ _ rfl ?_)
    obtain ⟨_, e6, _⟩ := pN_some hi
    obtain ⟨_, e5, _⟩ := pN_some e6
    obtain ⟨_, e4, _⟩ := pT_some e5
    obtain ⟨_, e3, _⟩ := pN_some e4
    obtain ⟨_, e2, _⟩ := pN_some e3
    obtain ⟨_, e1, _⟩ := pN_some e2
    rw [e]
    exact ⟨_, (gd_some e1).2⟩
  · have k' := hkind.symm.trans k
    rw [(kind2 k).1] at hi
    have e : ∀ L, parseP L b = rTold L (rHead (some b)) (rHeadR (some b)) := fun L => by unfold parseP rBody; rw [if_neg (by omega), if_pos k']
    rw [e] at h hi
    have h1 := told_lim2 h hi
    refine main (by rw [e, e, h1]) (hcl _ _ rfl ?_)
    obtain ⟨_, e4, _⟩ := pN_some hi
    obtain ⟨_, e3, _⟩ := pT_some e4
    obtain ⟨_, e2, _⟩ := pN_some e3
    obtain ⟨_, e1, _⟩ := pN_some e2
    rw [e]
    exact ⟨_, (gd_some e1).2⟩
  · have k' := hkind.symm.trans k
    rw [(kind3 k).1] at hi
    have e : ∀ L, parseP L b = rRAsk L (rHead (some b)) (rHeadR (some b)) := fun L => by unfold parseP rBody; rw [if_neg (by omega), if_neg (by omega), if_pos k']
    rw [e] at h hi
    have h1 := rask_lim2 h hi
    refine main (by rw [e, e, h1]) (hcl _ _ rfl ?_)
    obtain ⟨_, e6, _⟩ := pN_some hi
    obtain ⟨_, e5, _⟩ := pN_some e6
    obtain ⟨_, e4, _⟩ := pT_some e5
    obtain ⟨_, e3, _⟩ := pT_some e4
    obtain ⟨_, e2, _⟩ := pN_some e3
    obtain ⟨_, e1, _⟩ := pN_some e2
    rw [e]
    exact ⟨_, e1⟩
  · have k' := hkind.symm.trans k
    rw [(kind4 k).1] at hi
    have e : ∀ L, parseP L b = rRTold L (rHead (some b)) (rHeadR (some b)) := fun L => by unfold parseP rBody; rw [if_neg (by omega), if_neg (by omega), if_neg (by omega), if_pos k']
    rw [e] at h hi
    have h1 := rtold_lim2 h hi
    refine main (by rw [e, e, h1]) (hcl _ _ rfl ?_)
    rw [e]
    have hi2 := hi
    unfold bRTold at hi2
    cases hc : pN (gd (decide ((rRTold false (rHead (some b)) (rHeadR (some b))).1.names.length ≤ 16)) (bRTold0 (rRTold false (rHead (some b)) (rHeadR (some b))).1 (headP (rRTold false (rHead (some b)) (rHeadR (some b))).1))) ((rRTold false (rHead (some b)) (rHeadR (some b))).1.names.length : Nat) 1 with
    | none => rw [hc, pTs_none] at hi2; cases hi2
    | some z =>
      obtain ⟨_, e16, _⟩ := pN_some hc
      obtain ⟨-, e15⟩ := gd_some e16
      obtain ⟨_, e14, _⟩ := pN_some e15
      obtain ⟨_, e13, _⟩ := pN_some e14
      obtain ⟨_, e12, _⟩ := pN_some e13
      obtain ⟨_, e11, _⟩ := pN_some e12
      obtain ⟨_, e10, _⟩ := pN_some e11
      obtain ⟨_, e9, _⟩ := pN_some e10
      obtain ⟨_, e8, _⟩ := pN_some e9
      obtain ⟨_, e7, _⟩ := pN_some e8
      obtain ⟨_, e6, _⟩ := pN_some e7
      obtain ⟨_, e5, _⟩ := pN_some e6
      obtain ⟨_, e4, _⟩ := pN_some e5
      obtain ⟨_, e3, _⟩ := pN_some e4
      obtain ⟨_, e2, _⟩ := pN_some e3
      obtain ⟨_, e1, _⟩ := pN_some e2
      obtain ⟨_, e0, _⟩ := pN_some e1
      exact ⟨_, e0⟩
  · have k' := hkind.symm.trans k
    rw [(kind5 k).1] at hi
    have e : ∀ L, parseP L b = rRecall (rHead (some b)) (rHeadR (some b)) := fun L => by unfold parseP rBody; rw [if_neg (by omega), if_neg (by omega), if_neg (by omega), if_neg (by omega), if_pos k']
    rw [e] at hi
    refine main (by rw [e, e]) (hcl _ _ rfl ?_)
    obtain ⟨_, e1, _⟩ := pN_some hi
    rw [e]
    exact ⟨_, e1⟩
end Go.Proofs.Ytdlcpfgogjcciaa
