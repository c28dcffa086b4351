/- The verbs of both memories, allowed or not, in one word each. The card: what it keeps, and what a verb does. The cards as they lie in the heap. The verbs of the program's card. No statement of the seat is proved here. -/
import Derived.Test.YtdlcpfgogjcciaaZ14
import Derived.Test.YtdlcpfgogjcciaaZ15
import Derived.Test.YtdlcpfgogjcciaaZ11
import Derived.Test.YtdlcpfgogjcciaaZ02
import Derived.Test.YtdlcpfgogjcciaaZ03
import Derived.Test.YtdlcpfgogjcciaaZ08
import Derived.Lib.ConvBytes
import Derived.Lib.Strings
import Derived.Lib.AtoiErrMem
import Derived.Deep.RegionHeld3
namespace Go.Proofs.Ytdlcpfgogjcciaa
open Go.RowKit

def errV (b : Bool) : Int := if b then 0 else 1
def storeS (N : Nat) (S : List UInt8) (a : Int) (bs : List UInt8) : List UInt8 := if inW (8 * N) a bs.length then putL S a.toNat bs else S
def storeA (N : Nat) (A : List Bool) (a : Int) (m : Nat) : List Bool := if inW (8 * N) a m then clrL A a.toNat m else A
def flushU (N : Nat) (S T : List UInt8) (A : List Bool) (a n : Int) : List Bool := if inW (8 * N) a n then flushA S T A (lineB a.toNat n.toNat) else A
def evB (N : Nat) (l : Int) : Bool := decide (0 ≤ l ∧ l < ((N / 8 : Nat) : Int))
def evT (N : Nat) (S T : List UInt8) (l : Int) : List UInt8 := if evB N l then mixL S T (inC (8 * l.toNat) 8) else T
def evA (N : Nat) (A : List Bool) (l : Int) : List Bool := if evB N l then clrC A (8 * l.toNat) 8 else A
def loadM (N : Nat) (a n : Int) : Nat := if inW (8 * N) a n then n.toNat else 0
def loadL (N : Nat) (S : List UInt8) (a n : Int) : List UInt8 := if inW (8 * N) a n then (S.drop a.toNat).take n.toNat else []
section
variable {w : World} {x : MB} {N : Nat} {S T : List UInt8} {A : List Bool}
theorem pm_storeU (h : PM w x N S T A) {B : Option Addr} {m c : Nat} {bs : List UInt8} (hs : Sl w B m bs) (hB : 0 < m → ∀ p, B = some p → ¬ x.F p.block) (a : Int) :
    Calls Try.prog 56 #[.pointer (some ⟨x.p, 0, none⟩), .int .i64 a, .slice B m c] w fun e w' => e = .returned (.int .i64 (errV (inW (8 * N) a m))) ∧ PM w' x N (storeS N S a bs) T (storeA N A a m) ∧ Turn x.F w w' := by
  have hl := hs.1
  cases hin : inW (8 * N) a m with
  | true =>
    obtain ⟨h1, h2, h3⟩ := inW_iff.1 hin
    obtain ⟨b, rfl⟩ : ∃ b : Nat, a = (b : Int) := ⟨a.toNat, by omega⟩
    rw [storeS, hl, hin, storeA, hin]
    exact pm_store h hs hB b (by omega)
  | false =>
    rw [storeS, hl, hin, storeA, hin]
    refine (pm_store_no h B m c (by have := hs.2.1; omega) a hin).mono ?_
    rintro e w' ⟨rfl, rfl⟩
    exact ⟨rfl, h, Turn.refl _ _⟩
theorem rm_storeU (h : RM w x N S T A) {B : Option Addr} {m c : Nat} {bs : List UInt8} (hs : Sl w B m bs) (hB : 0 < m → ∀ p, B = some p → ¬ x.F p.block) (a : Int) :
    Calls Try.prog 37 #[.pointer (some ⟨x.p, 0, none⟩), .int .i64 a, .slice B m c] w fun e w' => e = .returned (.int .i64 (errV (inW (8 * N) a m))) ∧ RM w' x N (storeS N S a bs) T (storeA N A a m) ∧ Turn x.F w w' := by
  have hl := hs.1
  cases hin : inW (8 * N) a m with
  | true =>
    obtain ⟨h1, h2, h3⟩ := inW_iff.1 hin
    obtain ⟨b, rfl⟩ : ∃ b : Nat, a = (b : Int) := ⟨a.toNat, by omega⟩
    rw [storeS, hl, hin, storeA, hin]
    exact rm_store h hs hB b (by omega)
  | false =>
    rw [storeS, hl, hin, storeA, hin]
    refine (rm_store_no h B m c a hin).mono ?_
    rintro e w' ⟨rfl, rfl⟩
    exact ⟨rfl, h, Turn.refl _ _⟩
theorem pm_flushU (h : PM w x N S T A) (a n : Int) (hn : -9223372036854775808 ≤ n) (hn' : n ≤ 9223372036854775807) :
    Calls Try.prog 58 #[.pointer (some ⟨x.p, 0, none⟩), .int .i64 a, .int .i64 n] w fun e w' => e = .returned (.int .i64 (errV (inW (8 * N) a n))) ∧ PM w' x N S T (flushU N S T A a n) ∧ Turn x.F w w' := by
  cases hin : inW (8 * N) a n with
  | true =>
    obtain ⟨h1, h2, h3⟩ := inW_iff.1 hin
    obtain ⟨b, rfl⟩ : ∃ b : Nat, a = (b : Int) := ⟨a.toNat, by omega⟩
    obtain ⟨m, rfl⟩ : ∃ m : Nat, n = (m : Int) := ⟨n.toNat, by omega⟩
    rw [flushU, hin]
    exact pm_flush h b m (by omega)
  | false =>
    rw [flushU, hin]
    refine (pm_flush_no h a n hn hn' hin).mono ?_
    rintro e w' ⟨rfl, g⟩
    exact ⟨rfl, h.keep g, Turn.grow g _⟩
theorem rm_flushU (h : RM w x N S T A) (a n : Int) :
    Calls Try.prog 39 #[.pointer (some ⟨x.p, 0, none⟩), .int .i64 a, .int .i64 n] w fun e w' => e = .returned (.int .i64 (errV (inW (8 * N) a n))) ∧ RM w' x N S T (flushU N S T A a n) ∧ Turn x.F w w' := by
  cases hin : inW (8 * N) a n with
  | true =>
    obtain ⟨h1, h2, h3⟩ := inW_iff.1 hin
    obtain ⟨b, rfl⟩ : ∃ b : Nat, a = (b : Int) := ⟨a.toNat, by omega⟩
    obtain ⟨m, rfl⟩ : ∃ m : Nat, n = (m : Int) := ⟨n.toNat, by omega⟩
    rw [flushU, hin]
    exact rm_flush h b m (by omega)
  | false =>
    rw [flushU, hin]
    refine (rm_flush_no h a n hin).mono ?_
    rintro e w' ⟨rfl, rfl⟩
    exact ⟨rfl, h, Turn.refl _ _⟩
theorem pm_loadU (h : PM w x N S T A) (a n : Int) (hn : -9223372036854775808 ≤ n) (hn' : n ≤ 9223372036854775807) :
    Calls Try.prog 7 #[.pointer (some ⟨x.p, 0, none⟩), .int .i64 a, .int .i64 n] w fun e w' => ∃ A' c', e = .returned (.tuple #[.slice A' (loadM N a n) c', .int .i64 (errV (inW (8 * N) a n))]) ∧ Own w' w.heap.size A' (loadM N a n) c' (loadL N S a n) ∧ Grow w w' := by
  cases hin : inW (8 * N) a n with
  | true =>
    obtain ⟨h1, h2, h3⟩ := inW_iff.1 hin
    obtain ⟨b, rfl⟩ : ∃ b : Nat, a = (b : Int) := ⟨a.toNat, by omega⟩
    obtain ⟨m, rfl⟩ : ∃ m : Nat, n = (m : Int) := ⟨n.toNat, by omega⟩
    rw [loadM, loadL, hin]
    exact pm_load h b m (by omega)
  | false =>
    rw [loadM, loadL, hin]
    refine (pm_load_no h a n hn hn' hin).mono ?_
    rintro e w' ⟨rfl, rfl⟩
    exact ⟨none, 0, rfl, Own.nil _ _, Grow.refl _⟩
end
end Go.Proofs.Ytdlcpfgogjcciaa

namespace Go.Proofs.Ytdlcpfgogjcciaa
open Go.RowKit

/-- A memory's bytes: seen, lasting, on their way. -/
structure MM where
  S : List UInt8
  T : List UInt8
  A : List Bool
/-- What is kept of a client. -/
structure Sd where
  ep : Int := 0
  la : Int := 0
  told : PK := {}
  had : Bool := false
structure Sd.ok (s : Sd) : Prop where
  ep : i64B s.ep
  la : i64B s.la
  told : s.told.ok
  names : s.told.names = []
structure CS where
  m : MM
  L : List Sd
  fresh : Bool := false
structure CS.ok (s : CS) : Prop where
  len : s.L.length = 8
  sides : ∀ x ∈ s.L, x.ok
theorem zero_sd : ({} : Sd).ok := ⟨zero_i64, zero_i64, zero_ok, rfl⟩

def ansP (p : PK) (e : Int) (d : ByteArray) (o : Int) : PK := { kind := 2, client := p.client, epoch := p.epoch, seq := p.seq, op := p.op, errno := e, data := d, old := o }
def askP (p : PK) : PK := ansP p 0 ⟨#[]⟩ 0
def MM.store (m : MM) (a : Int) (bs : List UInt8) : MM := ⟨storeS 2896 m.S a bs, m.T, storeA 2896 m.A a bs.length⟩
def MM.flush (m : MM) (a n : Int) : MM := ⟨m.S, mixL m.S m.T fun k => (flushU 2896 m.S m.T m.A a n).getD k false, List.replicate 2896 false⟩
def noV (m : MM) (p : PK) : PK × MM := (ansP p 35 ⟨#[]⟩ 0, m)
def putV (m : MM) (p : PK) : PK × MM := if ownP p.client p.at_ p.data.size = true then (askP p, m.store p.at_ p.data.data.toList) else noV m p
def getV (m : MM) (p : PK) : PK × MM := if mayP p.client p.at_ p.n = true then (ansP p 0 ⟨(loadL 2896 m.S p.at_ p.n).toArray⟩ 0, m) else noV m p
def flushV (m : MM) (p : PK) : PK × MM := if ownP p.client p.at_ p.n = true then (askP p, m.flush p.at_ p.n) else noV m p
def cellP (m : MM) (p : PK) : Int := getN m.S p.at_ 8
def swapB (p : PK) : Bool := decide (p.at_ % 8 = 0) && ownP p.client p.at_ 8
def swapV (m : MM) (p : PK) : PK × MM :=
  if swapB p = true then (ansP p 0 ⟨#[]⟩ (cellP m p), if cellP m p = p.old then m.store p.at_ (leB p.new.toNat 8) else m) else noV m p
def verbV (m : MM) (p : PK) : PK × MM := if p.op = 2 then getV m p else if p.op = 3 then flushV m p else if p.op = 4 then swapV m p else putV m p
def CS.side (s : CS) (c : Int) : Sd := s.L.getD (c - 1).toNat {}
def CS.setSide (s : CS) (c : Int) (x : Sd) : List Sd := s.L.set (c - 1).toNat x
def CS.stale (s : CS) : CS := { s with fresh := false }
/-- A verb, done. -/
def doneP (s : CS) (p : PK) : PK × Bool × CS :=
  ((verbV s.m p).1, true, ⟨(verbV s.m p).2, s.setSide p.client { ep := (s.side p.client).ep, la := p.seq, told := (verbV s.m p).1, had := true }, decide ((verbV s.m p).1.errno = 0)⟩)
def doP (s : CS) (p : PK) : PK × Bool × CS :=
  if putE p = 0 ∧ p.kind = 1 then
    if p.epoch = (s.side p.client).ep then
      if p.seq = (s.side p.client).la then ((s.side p.client).told, (s.side p.client).had, s.stale)
      else if p.seq = wrap64 ((s.side p.client).la + 1) then doneP s p
      else ({}, false, s.stale)
    else (ansP p 31 ⟨#[]⟩ 0, true, s.stale)
  else ({}, false, s.stale)
def setP (s : CS) (c e : Int) : CS := if 1 ≤ c ∧ c ≤ 8 then { s with L := s.setSide c { ep := e } } else s

/-- What is known of a verb that may be asked. -/
structure AskOk (p : PK) : Prop where
  kind : p.kind = 1
  client : 1 ≤ p.client ∧ p.client ≤ 8
  seq : 0 ≤ p.seq
  op : 1 ≤ p.op ∧ p.op ≤ 4
  at_ : 0 ≤ p.at_ ∧ p.at_ < 4294967296
  n : 0 ≤ p.n ∧ p.n < 65536
  data : p.data.size ≤ 128
  new : fitsB p.new 8 = true
  names : p.names = []
theorem fits_4 {n : Int} (h : fitsB n (4 : Nat) = true) : 0 ≤ n ∧ n < 4294967296 := by simp [fitsB] at h; omega
theorem fits_2 {n : Int} (h : fitsB n (2 : Nat) = true) : 0 ≤ n ∧ n < 65536 := by simp [fitsB] at h; omega
theorem askOk {p : PK} (h : putE p = 0) (hk : p.kind = 1) : AskOk p := by
  obtain ⟨l, h1, h2, -, -⟩ := putE_ok h
  unfold innerP at h1
  rw [if_pos hk] at h1
  unfold bAsk headP at h1
  obtain ⟨b1, k1, f1, -⟩ := pN_some h1
  obtain ⟨b2, k2, f2, -⟩ := pN_some k1
  obtain ⟨b3, k3, f3, -, -⟩ := pT_some k2
  obtain ⟨b4, k4, f4, -⟩ := pN_some k3
  obtain ⟨b5, k5, f5, -⟩ := pN_some k4
  obtain ⟨b6, k6, f6, -⟩ := pN_some k5
  obtain ⟨g1, k7⟩ := gd_some k6
  obtain ⟨b8, k8, f8, -⟩ := pN_some k7
  obtain ⟨b9, k9, f9, -⟩ := pN_some k8
  obtain ⟨b10, k10, f10, -⟩ := pN_some k9
  obtain ⟨b11, k11, f11, -⟩ := pN_some k10
  obtain ⟨g2, -⟩ := gd_some k11
  have g1' : 1 ≤ p.op ∧ p.op ≤ 4 := of_decide_eq_true g1
  have g2' : 1 ≤ p.client ∧ p.client ≤ 8 := of_decide_eq_true g2
  refine ⟨hk, g2', fits_nat f8, g1', fits_4 f5, fits_2 f4, by omega, f1, ?_⟩
  have e : (normP p).names = p.names := by rw [h2]
  rw [← e]
  unfold normP
  rw [if_pos hk]

theorem ansP_ok {p : PK} (h : p.ok) {e o : Int} {d : ByteArray} (he : i64B e) (hd : d.size ≤ 1048576) (ho : i64B o) : (ansP p e d o).ok :=
  { zero_ok with kind := ⟨by show (-9223372036854775808 : Int) ≤ 2; decide, by show (2 : Int) ≤ 9223372036854775807; decide⟩, client := h.client, epoch := h.epoch, seq := h.seq, op := h.op, errno := he, data := hd, old := ho }
theorem i64_lit {n : Int} (h : 0 ≤ n ∧ n ≤ 1000) : i64B n := ⟨by omega, by omega⟩
theorem noV_ok {m : MM} {p : PK} (h : p.ok) : (noV m p).1.ok := ansP_ok h (i64_lit (by decide)) (Nat.zero_le _) (i64_lit (by decide))
theorem askP_ok {p : PK} (h : p.ok) : (askP p).ok := ansP_ok h (i64_lit (by decide)) (Nat.zero_le _) (i64_lit (by decide))
theorem loadL_len {N : Nat} {S : List UInt8} {a n : Int} : (loadL N S a n).length ≤ n.toNat := by
  unfold loadL
  split
  · rw [List.length_take]; exact Nat.min_le_left _ _
  · exact Nat.zero_le _
theorem verbV_ok {m : MM} {p : PK} (h : p.ok) : (verbV m p).1.ok ∧ (verbV m p).1.names = [] := by
  unfold verbV
  split
  · unfold getV
    split
    · rename_i hm
      have hn : 1 ≤ p.n ∧ p.n ≤ 64 := by
        unfold mayP at hm
        rw [Bool.and_eq_true] at hm
        exact of_decide_eq_true hm.1
      refine ⟨ansP_ok h (i64_lit (by decide)) ?_ (i64_lit (by decide)), rfl⟩
      show (⟨(loadL 2896 m.S p.at_ p.n).toArray⟩ : ByteArray).size ≤ 1048576
      have := loadL_len (N := 2896) (S := m.S) (a := p.at_) (n := p.n)
      show (loadL 2896 m.S p.at_ p.n).toArray.size ≤ 1048576
      rw [List.size_toArray]
      omega
    · exact ⟨noV_ok h, rfl⟩
  split
  · unfold flushV
    split
    · exact ⟨askP_ok h, rfl⟩
    · exact ⟨noV_ok h, rfl⟩
  split
  · unfold swapV
    split
    · refine ⟨ansP_ok h (i64_lit (by decide)) (Nat.zero_le _) ?_, rfl⟩
      have := get_any m.S p.at_ 8
      exact ⟨by show (-9223372036854775808 : Int) ≤ getN m.S p.at_ 8; omega, this.2⟩
    · exact ⟨noV_ok h, rfl⟩
  · unfold putV
    split
    · exact ⟨askP_ok h, rfl⟩
    · exact ⟨noV_ok h, rfl⟩
theorem CS.ok.side {s : CS} (h : s.ok) (c : Int) : (s.side c).ok := by
  unfold CS.side
  rw [List.getD_eq_getElem?_getD]
  cases e : s.L[(c - 1).toNat]? with
  | none => exact zero_sd
  | some x => exact h.sides x (List.mem_of_getElem? e)
theorem CS.ok.stale {s : CS} (h : s.ok) : s.stale.ok := ⟨h.len, h.sides⟩
theorem CS.ok.set {s : CS} (h : s.ok) {x : Sd} (hx : x.ok) (c : Int) (m : MM) (f : Bool) : (CS.mk m (s.setSide c x) f).ok := by
  refine ⟨by show (s.L.set _ x).length = 8; rw [List.length_set]; exact h.len, fun y hy => ?_⟩
  rcases List.mem_or_eq_of_mem_set hy with hy | rfl
  · exact h.sides y hy
  · exact hx
theorem doP_ok {s : CS} {p : PK} (h : s.ok) (hp : p.ok) : (doP s p).1.ok ∧ (doP s p).1.names = [] ∧ (doP s p).2.2.ok := by
  have hs := h.side p.client
  unfold doP
  split
  · split
    · split
      · exact ⟨hs.told, hs.names, h.stale⟩
      split
      · have hv := verbV_ok (m := s.m) hp
        exact ⟨hv.1, hv.2, h.set (x := { ep := (s.side p.client).ep, la := p.seq, told := (verbV s.m p).1, had := true }) ⟨hs.ep, hp.seq, hv.1, hv.2⟩ _ _ _⟩
      · exact ⟨zero_ok, rfl, h.stale⟩
    · exact ⟨ansP_ok hp (i64_lit (by decide)) (Nat.zero_le _) (i64_lit (by decide)), rfl, h.stale⟩
  · exact ⟨zero_ok, rfl, h.stale⟩
theorem setP_ok {s : CS} {c e : Int} (h : s.ok) (he : i64B e) : (setP s c e).ok := by
  unfold setP
  split
  · exact h.set ⟨he, zero_i64, zero_ok, rfl⟩ _ _ _
  · exact h

/-! ### the laws, plainly -/
theorem side_set {s : CS} (h : s.ok) {c : Int} (hc : 1 ≤ c ∧ c ≤ 8) (m : MM) (x : Sd) (f : Bool) : (CS.mk m (s.setSide c x) f).side c = x := by
  have := h.len
  unfold CS.side CS.setSide
  rw [List.getD_eq_getElem?_getD]
  show ((s.L.set (c - 1).toNat x)[(c - 1).toNat]?).getD {} = x
  rw [List.getElem?_set_self (by omega)]
  rfl
theorem side_set_ne {s : CS} {c d : Int} (hc : 1 ≤ c ∧ c ≤ 8) (hd : 1 ≤ d ∧ d ≤ 8) (hn : d ≠ c) (m : MM) (x : Sd) (f : Bool) : (CS.mk m (s.setSide d x) f).side c = s.side c := by
  unfold CS.side CS.setSide
  rw [List.getD_eq_getElem?_getD, List.getD_eq_getElem?_getD]
  show ((s.L.set (d - 1).toNat x)[(c - 1).toNat]?).getD {} = _
  rw [List.getElem?_set_ne (by omega)]
theorem fenced_is {s : CS} {p : PK} (he : p.epoch ≠ (s.side p.client).ep) : (doP s p).2.2 = s.stale ∧ ((doP s p).2.1 = true → (doP s p).1.errno = 31) := by
  unfold doP
  by_cases c1 : putE p = 0 ∧ p.kind = 1
  · rw [if_pos c1, if_neg he]
    exact ⟨rfl, fun _ => rfl⟩
  · rw [if_neg c1]
    exact ⟨rfl, fun h => by cases h⟩
theorem once_is {s s2 : CS} {p : PK} (h : s.ok) (h1 : (doP s p).2.1 = true) (h2 : (doP s p).1.errno ≠ 31) (hs : s2.side p.client = (doP s p).2.2.side p.client) : doP s2 p = ((doP s p).1, true, s2.stale) := by
  unfold doP at h1 h2 hs ⊢
  by_cases c1 : putE p = 0 ∧ p.kind = 1
  · rw [if_pos c1] at h1 h2 hs ⊢
    by_cases c2 : p.epoch = (s.side p.client).ep
    · rw [if_pos c2] at h1 h2 hs
      by_cases c3 : p.seq = (s.side p.client).la
      · rw [if_pos c3] at h1 h2 hs
        have hs' : s2.side p.client = s.side p.client := hs
        have h1' : (s.side p.client).had = true := h1
        rw [hs', if_pos c2, if_pos c3, if_pos c1, if_pos c2, if_pos c3, h1']
      · rw [if_neg c3] at h1 h2 hs
        by_cases c4 : p.seq = wrap64 ((s.side p.client).la + 1)
        · rw [if_pos c4] at h1 h2 hs
          have ha := askOk c1.1 c1.2
          rw [show (doneP s p).2.2.side p.client = { ep := (s.side p.client).ep, la := p.seq, told := (verbV s.m p).1, had := true } from side_set h ha.client _ _ _] at hs
          rw [hs, if_pos c2, if_pos rfl, if_pos c1, if_pos c2, if_neg c3, if_pos c4]
          rfl
        · rw [if_neg c4] at h1
          cases h1
    · rw [if_neg c2] at h2
      exact absurd rfl h2
  · rw [if_neg c1] at h1
    cases h1
/-- A deed of another client leaves a client's side. -/
theorem other_do {s : CS} {p : PK} {c : Int} (hc : 1 ≤ c ∧ c ≤ 8) (hn : p.client ≠ c) : (doP s p).2.2.side c = s.side c := by
  unfold doP
  split
  · rename_i c1
    have ha := askOk c1.1 c1.2
    split
    · split
      · rfl
      split
      · exact side_set_ne hc ha.client hn _ _ _
      · rfl
    · rfl
  · rfl
theorem other_set {s : CS} {c d e : Int} (hc : 1 ≤ c ∧ c ≤ 8) (hn : d ≠ c) : (setP s d e).side c = s.side c := by
  unfold setP
  split
  · rename_i hd
    exact side_set_ne hc hd hn _ _ _
  · rfl
theorem putL_out (bs : List UInt8) : ∀ (S : List UInt8) (i j : Nat), (j < i ∨ i + bs.length ≤ j) → (putL S i bs)[j]? = S[j]? := by
  induction bs with
  | nil => intro S i j _; rfl
  | cons b bs ih =>
    intro S i j h
    show (putL (S.set i b) (i + 1) bs)[j]? = S[j]?
    rw [List.length_cons] at h
    rw [ih _ _ _ (by omega), List.getElem?_set_ne (by omega)]
theorem store_out {m : MM} {a : Int} {bs : List UInt8} {lo hi : Int} (h0 : lo ≤ a) (h1 : a + bs.length ≤ hi) {j : Nat} (hj : (j : Int) < lo ∨ hi ≤ j) : (m.store a bs).S[j]? = m.S[j]? := by
  show (storeS 2896 m.S a bs)[j]? = _
  unfold storeS
  split
  · rename_i hin
    obtain ⟨h2, -, -⟩ := inW_iff.1 hin
    exact putL_out bs _ _ _ (by omega)
  · rfl
theorem own_out {m : MM} {p : PK} {j : Nat} (hj : (j : Int) < 6784 + 1024 * (p.client - 1) ∨ 6784 + 1024 * (p.client - 1) + 1024 ≤ j) : (verbV m p).2.S[j]? = m.S[j]? := by
  unfold verbV
  split
  · unfold getV
    split <;> rfl
  split
  · unfold flushV
    split <;> rfl
  split
  · unfold swapV
    split
    · rename_i hb
      unfold swapB at hb
      rw [Bool.and_eq_true] at hb
      obtain ⟨-, -, h3, h4⟩ := ownP_iff.1 hb.2
      show (if cellP m p = p.old then m.store p.at_ (leB p.new.toNat 8) else m).S[j]? = _
      split
      · exact store_out h3 (by rw [leB_length]; exact h4) hj
      · rfl
    · rfl
  · unfold putV
    split
    · rename_i hb
      obtain ⟨-, -, h3, h4⟩ := ownP_iff.1 hb
      refine store_out h3 ?_ hj
      have e : p.data.data.toList.length = p.data.size := Array.length_toList
      rw [e]
      exact h4
    · rfl
theorem own_is {s : CS} {p : PK} {j : Nat} (hj : (doP s p).2.2.m.S[j]? ≠ s.m.S[j]?) : (1 ≤ p.client ∧ p.client ≤ 8) ∧ 6784 + 1024 * (p.client - 1) ≤ j ∧ (j : Int) < 6784 + 1024 * (p.client - 1) + 1024 := by
  unfold doP at hj
  split at hj
  · rename_i c1
    have ha := askOk c1.1 c1.2
    refine ⟨ha.client, ?_⟩
    split at hj
    · split at hj
      · exact absurd rfl hj
      split at hj
      · by_cases hq : (j : Int) < 6784 + 1024 * (p.client - 1) ∨ 6784 + 1024 * (p.client - 1) + 1024 ≤ j
        · exact absurd (own_out (m := s.m) hq) hj
        · omega
      · exact absurd rfl hj
    · exact absurd rfl hj
  · exact absurd rfl hj

theorem getO_dropV {bs : List UInt8} {a : Nat} (h : a ≤ bs.length) (wd : Int) : getO bs (a : Int) wd = getO (bs.drop a) 0 wd := by
  unfold getO
  have e1 : ((isW wd = true ∧ 0 ≤ (a : Int) ∧ (a : Int) + wd ≤ (bs.length : Int)) ↔ (isW wd = true ∧ (0 : Int) ≤ 0 ∧ 0 + wd ≤ ((bs.drop a).length : Int))) := by
    rw [List.length_drop]
    constructor
    · rintro ⟨h1, h2, h3⟩; exact ⟨h1, by omega, by omega⟩
    · rintro ⟨h1, h2, h3⟩; exact ⟨h1, by omega, by omega⟩
  simp only [e1, Int.toNat_natCast, Int.toNat_zero, List.drop_zero]
theorem getN_dropV {bs : List UInt8} {a : Nat} (h : a ≤ bs.length) (wd : Int) : getN bs (a : Int) wd = getN (bs.drop a) 0 wd := by unfold getN; rw [getO_dropV h]
/-! ### a side's cells -/
def Sd.cells (s : Sd) : List Value := .int .i64 s.ep :: .int .i64 s.la :: (s.told.cells (.slice none 0 0) ++ [.bool s.had])
theorem Sd.cells_length (s : Sd) : s.cells.length = 46 := rfl
def cellsL (L : List Sd) : List Value := L.flatMap Sd.cells
theorem cellsL_length : ∀ L : List Sd, (cellsL L).length = 46 * L.length
  | [] => rfl
  | s :: L => by
    show (s.cells ++ cellsL L).length = _
    rw [List.length_append, cellsL_length L, Sd.cells_length, List.length_cons]
    omega
theorem cellsL_cut {L : List Sd} {i : Nat} {s : Sd} (h : L[i]? = some s) : cellsL L = cellsL (L.take i) ++ (s.cells ++ cellsL (L.drop (i + 1))) := by
  have hi : i < L.length := (List.getElem?_eq_some_iff.1 h).1
  have e : L = L.take i ++ s :: L.drop (i + 1) := by
    have e1 := List.take_append_drop i L
    rw [List.drop_eq_getElem_cons hi, (List.getElem?_eq_some_iff.1 h).2] at e1
    exact e1.symm
  conv => lhs; rw [e]
  unfold cellsL
  rw [List.flatMap_append, List.flatMap_cons]
theorem cellsL_set {L : List Sd} {i : Nat} {s x : Sd} (h : L[i]? = some s) : cellsL (L.set i x) = cellsL (L.take i) ++ (x.cells ++ cellsL (L.drop (i + 1))) := by
  have hi : i < L.length := (List.getElem?_eq_some_iff.1 h).1
  rw [cellsL_cut (L := L.set i x) (i := i) (s := x) (List.getElem?_set_self hi), List.take_set_of_le (Nat.le_refl _), List.drop_set_of_lt (Nat.lt_succ_self _)]
theorem take_len {L : List Sd} {i : Nat} {s : Sd} (h : L[i]? = some s) : (cellsL (L.take i)).length = 46 * i := by
  have hi : i < L.length := (List.getElem?_eq_some_iff.1 h).1
  rw [cellsL_length, List.length_take, Nat.min_eq_left (Nat.le_of_lt hi)]
end Go.Proofs.Ytdlcpfgogjcciaa

namespace Go.Proofs.Ytdlcpfgogjcciaa
open Go.RowKit Go.Great

/-! ### the cards -/
def cardC (p0 : Nat) (L : List Sd) (f : Bool) : List Value := .pointer (some ⟨p0, 0, none⟩) :: (cellsL L ++ [.bool f])
theorem cardC_length {p0 : Nat} {L : List Sd} {f : Bool} (h : L.length = 8) : (cardC p0 L f).length = 370 := by
  unfold cardC
  rw [List.length_cons, List.length_append, cellsL_length, h]
  rfl
theorem cardC_cut {p0 : Nat} {L : List Sd} {f : Bool} {i : Nat} {s : Sd} (h : L[i]? = some s) :
    cardC p0 L f = (.pointer (some ⟨p0, 0, none⟩) :: cellsL (L.take i)) ++ (s.cells ++ (cellsL (L.drop (i + 1)) ++ [.bool f])) := by
  unfold cardC
  rw [cellsL_cut h]
  simp only [List.cons_append, List.append_assoc]
theorem cardC_set {p0 : Nat} {L : List Sd} {f : Bool} {i : Nat} {s x : Sd} (h : L[i]? = some s) :
    cardC p0 (L.set i x) f = (.pointer (some ⟨p0, 0, none⟩) :: cellsL (L.take i)) ++ (x.cells ++ (cellsL (L.drop (i + 1)) ++ [.bool f])) := by
  unfold cardC
  rw [cellsL_set h]
  simp only [List.cons_append, List.append_assoc]
theorem cardC_pre {p0 : Nat} {L : List Sd} {i : Nat} {s : Sd} (h : L[i]? = some s) : (.pointer (some ⟨p0, 0, none⟩) :: cellsL (L.take i) : List Value).length = 46 * i + 1 := by
  rw [List.length_cons, take_len h]
theorem cardC_fresh {p0 : Nat} {L : List Sd} {f b : Bool} (h : L.length = 8) : (cardC p0 L f).set 369 (.bool b) = cardC p0 L b := by
  have e : (cellsL L).length = 368 := by rw [cellsL_length, h]
  unfold cardC
  rw [List.set_cons_succ, List.set_append_right _ _ (by omega), e]
  rfl
theorem cardC_freshAt {p0 : Nat} {L : List Sd} {f : Bool} (h : L.length = 8) : (cardC p0 L f)[369]? = some (.bool f) := by
  have e : (cellsL L).length = 368 := by rw [cellsL_length, h]
  unfold cardC
  rw [List.getElem?_cons_succ, List.getElem?_append_right (by omega), e]
  rfl
theorem CS.ok.at {s : CS} (h : s.ok) {c : Int} (hc : 1 ≤ c ∧ c ≤ 8) : s.L[(c - 1).toNat]? = some (s.side c) := by
  have := h.len
  unfold CS.side
  rw [List.getD_eq_getElem?_getD, List.getElem?_eq_getElem (by omega)]
  rfl
/-- The program's card at c, its memory x. -/
def CD (w : World) (c : Nat) (x : MB) (s : CS) : Prop := PM w x 2896 s.m.S s.m.T s.m.A ∧ Row w c (cardC x.p s.L s.fresh) ∧ ¬ x.F c ∧ s.ok
/-- The document's card at d, its memory y, its sides in z. -/
def RD20 (w : World) (d z : Nat) (y : MB) (s : CS) : Prop := RM w y 2896 s.m.S s.m.T s.m.A ∧ Row w d [.pointer (some ⟨y.p, 0, none⟩), .slice (some ⟨z, 0, none⟩) 8 8, .bool s.fresh] ∧ Row w z (cellsL s.L) ∧ ¬ y.F d ∧ ¬ y.F z ∧ ¬ d = z ∧ s.ok
section
variable {w w' : World} {c d z : Nat} {x y : MB} {s : CS}
theorem CD.keep (h : CD w c x s) (g : Grow w w') : CD w' c x s := ⟨h.1.keep g, h.2.1.keep g, h.2.2⟩
theorem RD20.keep (h : RD20 w d z y s) (g : Grow w w') : RD20 w' d z y s := ⟨h.1.keep g, h.2.1.keep g, h.2.2.1.keep g, h.2.2.2⟩
end
end Go.Proofs.Ytdlcpfgogjcciaa

namespace Go.Proofs.Ytdlcpfgogjcciaa
open Go.RowKit Go.Great

/-- The bytes of a text, in a new block. -/
theorem bytes_of (w : World) (s : ByteArray) (hs : s.size ≤ 17592186044000) : Sl (Lib.bytesWorld w 5 s) (some ⟨w.heap.size, 0, none⟩) s.size s.data.toList ∧ Grow w (Lib.bytesWorld w 5 s) := by
  have hL : s.data.toList.length = s.size := (Lib.size_eq s).symm
  have hb := Lib.bytesWorld_below w 5 s
  have hsz : w.heap.size < (Lib.bytesWorld w 5 s).heap.size := by simp [Lib.bytesWorld, World.freeze]
  refine ⟨⟨hL, hs, by simp [bvs, hL], fun _ => ⟨_, _, rfl, hsz, fun j u hu => ?_⟩⟩, hb⟩
  have hj : j < s.data.toList.length := by have := (List.getElem?_eq_some_iff.1 hu).1; simpa [bvs] using this
  have h6 := Lib.bytesWorld_cell w 5 s j (by omega)
  rw [Nat.zero_add, h6, ← hu]
  simp [bvs, bv, List.getD, List.getElem?_eq_getElem hj]
theorem bytesGrow (w : World) (s : ByteArray) : Grow w (Lib.bytesWorld w 5 s) := Lib.bytesWorld_below w 5 s

theorem boxedP (w : World) (p : PK) (nv : Value) : ∃ w1 b, w1 = w.alloc (.cells #[.int .i64 p.kind, .int .i64 p.client, .int .i64 p.epoch, .int .i64 p.seq, .int .i64 p.op, .int .i64 p.at_, .int .i64 p.n, .string p.data, .int .i64 p.old, .int .i64 p.new, .int .i64 p.ckind, .string p.path, .string p.path2, .int .i64 p.flags, .int .i64 p.cfd, .int .i64 p.coff, .int .i64 p.cn, .string p.cdata, .int .i64 p.ino, .int .i64 p.errno, .int .i64 p.rerrno, .int .i64 p.rfd, .string p.rdata, nv, .int .i64 p.ikind, .int .i64 p.ilinks, .int .i64 p.isize, .int .i64 p.wrote, .int .i64 p.nkind, .int .i64 p.nlinks, .int .i64 p.nsize, .int .i64 p.b0, .int .i64 p.b1, .int .i64 p.b2, .int .i64 p.b3, .int .i64 p.o0, .int .i64 p.o1, .int .i64 p.o2, .int .i64 p.o3, .int .i64 p.o4, .int .i64 p.o5, .int .i64 p.o6, .int .i64 p.o7] 36) ∧ b = w.heap.size ∧ Row w1 b (p.cells nv) ∧ Grow w w1 ∧ b < w1.heap.size := by
  have hb := Row.new w 36 (p.cells nv) #[.int .i64 p.kind, .int .i64 p.client, .int .i64 p.epoch, .int .i64 p.seq, .int .i64 p.op, .int .i64 p.at_, .int .i64 p.n, .string p.data, .int .i64 p.old, .int .i64 p.new, .int .i64 p.ckind, .string p.path, .string p.path2, .int .i64 p.flags, .int .i64 p.cfd, .int .i64 p.coff, .int .i64 p.cn, .string p.cdata, .int .i64 p.ino, .int .i64 p.errno, .int .i64 p.rerrno, .int .i64 p.rfd, .string p.rdata, nv, .int .i64 p.ikind, .int .i64 p.ilinks, .int .i64 p.isize, .int .i64 p.wrote, .int .i64 p.nkind, .int .i64 p.nlinks, .int .i64 p.nsize, .int .i64 p.b0, .int .i64 p.b1, .int .i64 p.b2, .int .i64 p.b3, .int .i64 p.o0, .int .i64 p.o1, .int .i64 p.o2, .int .i64 p.o3, .int .i64 p.o4, .int .i64 p.o5, .int .i64 p.o6, .int .i64 p.o7] rfl
  exact ⟨_, _, rfl, rfl, hb, (Grow.refl w).alloc _, hb.1.1⟩

/-- What a verb leaves: the memory, its answer in block g; of what was there only these have turned. -/
def VDone (w w' : World) (x : MB) (g : Nat) (r : PK × MM) : Prop := PM w' x 2896 r.2.S r.2.T r.2.A ∧ Row w' g (r.1.cells (.slice none 0 0)) ∧ Turn (fun k => x.F k ∨ k = g) w w'
theorem VDone.no {w w2 : World} {x : MB} {g : Nat} {m : MM} {p : PK} (hm : PM w2 x 2896 m.S m.T m.A) (hr : Row w2 g ((askP p).cells (.slice none 0 0))) (hgF : ¬ x.F g) (G : Grow w w2) : VDone w (w2.setCell ⟨g, 19, none⟩ (.int .i64 35)) x g (noV m p) := by
  have t : Turn (fun k => k = g) w2 (w2.setCell ⟨g, 19, none⟩ (.int .i64 35)) := Turn.setCell (F := fun k => k = g) w2 (p := ⟨g, 19, none⟩) rfl _
  exact ⟨hm.turn t (fun k e => by rw [e]; exact hgF), hr.set (j := 19) (show 19 < 43 by decide), (Turn.grow G _).and (t.mono fun k e => .inr e)⟩
theorem VDone.keep {w w' w'' : World} {x : MB} {g : Nat} {r : PK × MM} (h : VDone w w' x g r) (G : Grow w' w'') : VDone w w'' x g r := ⟨h.1.keep G, h.2.1.keep G, h.2.2.andGrow G⟩
theorem errno_at {w : World} {g : Nat} {q : PK} {nv : Value} (h : Row w g (q.cells nv)) : w.cell? ⟨g, 19, none⟩ = some (.int .i64 q.errno) ∧ w.frozen? ⟨g, 19, none⟩ = false := ⟨h.1.2 19 _ rfl, h.2 19 (show 19 < 43 by decide)⟩
theorem data_at {w : World} {g : Nat} {q : PK} {nv : Value} (h : Row w g (q.cells nv)) : w.cell? ⟨g, 7, none⟩ = some (.string q.data) ∧ w.frozen? ⟨g, 7, none⟩ = false := ⟨h.1.2 7 _ rfl, h.2 7 (show 7 < 43 by decide)⟩
theorem old_at {w : World} {g : Nat} {q : PK} {nv : Value} (h : Row w g (q.cells nv)) : w.cell? ⟨g, 8, none⟩ = some (.int .i64 q.old) ∧ w.frozen? ⟨g, 8, none⟩ = false := ⟨h.1.2 8 _ rfl, h.2 8 (show 8 < 43 by decide)⟩

theorem three_grow {w w' : World} {p1 p2 p3 : Addr} {v1 v2 v3 : Value} (g : Grow w w') (h : w.cell? p1 = some v1 ∧ w.cell? p2 = some v2 ∧ w.cell? p3 = some v3) : w'.cell? p1 = some v1 ∧ w'.cell? p2 = some v2 ∧ w'.cell? p3 = some v3 := ⟨g.cell h.1, g.cell h.2.1, g.cell h.2.2⟩
theorem three_turn {w w' : World} {F : Nat → Prop} {p1 p2 p3 : Addr} {v1 v2 v3 : Value} (t : Turn F w w') (n1 : ¬ F p1.block) (n2 : ¬ F p2.block) (n3 : ¬ F p3.block) (h : w.cell? p1 = some v1 ∧ w.cell? p2 = some v2 ∧ w.cell? p3 = some v3) : w'.cell? p1 = some v1 ∧ w'.cell? p2 = some v2 ∧ w'.cell? p3 = some v3 := ⟨t.cellW h.1 n1, t.cellW h.2.1 n2, t.cellW h.2.2 n3⟩
theorem pm_storeAt {w wz : World} {x : MB} {m : MM} (h : PM w x 2896 m.S m.T m.A) (g : Grow w wz) {A : Option Addr} {n cc : Nat} {bs : List UInt8} (hk : 0 < n → ∀ p, A = some p → w.heap.size ≤ p.block) (hs : Sl wz A n bs) (a : Int) :
    Calls Try.prog 56 #[.pointer (some ⟨x.p, 0, none⟩), .int .i64 a, .slice A n cc] wz fun e w' => (∃ er, e = .returned (.int .i64 er)) ∧ PM w' x 2896 (m.store a bs).S (m.store a bs).T (m.store a bs).A ∧ Turn x.F wz w' ∧ Turn x.F w w' := by
  refine (pm_storeU (h.keep g) hs (fun h0 p hp q => ?_) a).mono ?_
  · have := h.lt _ q
    have := hk h0 p hp
    omega
  rintro e w' ⟨rfl, h5, t5⟩
  have hl : bs.length = n := hs.1
  refine ⟨⟨_, rfl⟩, ?_, t5, (Turn.grow g _).and t5⟩
  unfold MM.store
  rw [hl]
  exact h5
theorem swap_cell {S : List UInt8} {c a : Int} (hl : S.length = 8 * 2896) (hc : 1 ≤ c ∧ c ≤ 8) (h : ownP c a 8 = true) : loadM 2896 a 8 = 8 ∧ getN (loadL 2896 S a 8) 0 8 = getN S a 8 := by
  obtain ⟨-, -, h1, h2⟩ := ownP_iff.1 h
  have hin : inW (8 * 2896) a 8 = true := inW_iff.2 ⟨by omega, by omega, by omega⟩
  have ea : a = (a.toNat : Int) := by omega
  unfold loadM loadL
  rw [if_pos hin, if_pos hin]
  refine ⟨rfl, ?_⟩
  have e2 := getN_take (b := S.drop a.toNat) (a := 0) (wd := 8) (m := 8) (by omega) (by rw [List.length_drop]; omega)
  have e3 := getN_dropV (bs := S) (a := a.toNat) (by omega) 8
  rw [← ea] at e3
  exact e2.trans e3.symm

set_option maxHeartbeats 8000000 in
set_option maxRecDepth 8000 in
theorem put_v {w : World} {c g : Nat} {x : MB} {m : MM} (hm : PM w x 2896 m.S m.T m.A) (hc : w.cell? ⟨c, 0, none⟩ = some (.pointer (some ⟨x.p, 0, none⟩))) (hcF : ¬ x.F c) {p : PK} (ha : AskOk p) (hi : p.ok) (hr : Row w g ((askP p).cells (.slice none 0 0))) (hgF : ¬ x.F g) (nv : Value) :
    Calls Try.prog 22 #[.pointer (some ⟨c, 0, none⟩), .agg #[.int .i64 p.kind, .int .i64 p.client, .int .i64 p.epoch, .int .i64 p.seq, .int .i64 p.op, .int .i64 p.at_, .int .i64 p.n, .string p.data, .int .i64 p.old, .int .i64 p.new, .int .i64 p.ckind, .string p.path, .string p.path2, .int .i64 p.flags, .int .i64 p.cfd, .int .i64 p.coff, .int .i64 p.cn, .string p.cdata, .int .i64 p.ino, .int .i64 p.errno, .int .i64 p.rerrno, .int .i64 p.rfd, .string p.rdata, nv, .int .i64 p.ikind, .int .i64 p.ilinks, .int .i64 p.isize, .int .i64 p.wrote, .int .i64 p.nkind, .int .i64 p.nlinks, .int .i64 p.nsize, .int .i64 p.b0, .int .i64 p.b1, .int .i64 p.b2, .int .i64 p.b3, .int .i64 p.o0, .int .i64 p.o1, .int .i64 p.o2, .int .i64 p.o3, .int .i64 p.o4, .int .i64 p.o5, .int .i64 p.o6, .int .i64 p.o7], .pointer (some ⟨g, 0, none⟩)] w fun e w' => e = .returned (.tuple #[]) ∧ VDone w w' x g (putV m p) := by
  obtain ⟨w1, b, hw1, hb, b1, g1, hl1⟩ := boxedP w p nv
  have hcl := Nat.lt_of_lt_of_le (World.block_lt_of_cell? w _ hc) g1.size
  have hgl := Nat.lt_of_lt_of_le hr.1.1 g1.size
  have hbF : ¬ x.F b := fun q => by have := hm.lt _ q; omega
  have hbg : ¬ b = g := by have := hr.1.1; omega
  have HM := Lib.hid (hm.keep g1)
  have HR := Lib.hid (hr.keep g1)
  have HC := Lib.hid (g1.cell hc)
  have HA := Lib.hid ha
  have HI := Lib.hid hi
  have BX := Lib.hid b1
  have HG := Lib.hid g1
  clear hm hr hc ha hi b1 g1
  go_enter Try.func22, Try.ntmps22
  go_upto_region 1 with (fail)
  rw [← hw1, ← hb]
  clear hw1 hb
  have c1 := BX.out.1.2 1 _ rfl
  have c5 := BX.out.1.2 5 _ rfl
  have c7 := BX.out.1.2 7 _ rfl
  go_wp2_with fail
  refine (own_w HA.out.client (by have := HA.out.at_; omega) (by have := HA.out.data; omega) _).mono ?_
  rintro e w2 ⟨rfl, g2⟩
  have HM2 := Lib.hid (HM.out.keep g2)
  have HR2 := Lib.hid (HR.out.keep g2)
  have HC2 := Lib.hid (g2.cell HC.out)
  have BX2 := Lib.hid (BX.out.keep g2)
  have HG2 := Lib.hid (HG.out.trans g2)
  replace hcl := Nat.lt_of_lt_of_le hcl g2.size
  replace hgl := Nat.lt_of_lt_of_le hgl g2.size
  replace hl1 := Nat.lt_of_lt_of_le hl1 g2.size
  clear g2 HM HR HC BX HG c1 c5 c7
  obtain ⟨ow, how⟩ : ∃ z, z = ownP p.client p.at_ p.data.size := ⟨_, rfl⟩
  rw [← how]
  have HOW := Lib.hid how
  clear how
  cases ow with
  | false =>
    obtain ⟨d19, f19⟩ := errno_at HR2.out
    go_wp2_with fail
    (try simp only [Exit.inBlock, Exit.then])
    refine bodyPost_ret (results_none rfl _ _ _) rfl ?_
    refine ⟨rfl, ?_⟩
    rw [putV, if_neg (by rw [← HOW.out]; decide)]
    exact VDone.no HM2.out HR2.out hgF HG2.out
  | true =>
    have HSZ := Lib.hid HA.out.data
    have hsS := And.intro HC2.out (And.intro (BX2.out.1.2 5 _ rfl) (BX2.out.1.2 7 _ rfl))
    have kc := fun (u : World) => Lib.run_convert_string_bytes (P := Try.prog) u 9 44 5 p.data Try.underlying9 Try.underlying44 Try.underlying5
    go_upto_region 3 with (fail)
    refine wp_region_held_drew (S := fun w' => w'.cell? ⟨c, 0, none⟩ = some (.pointer (some ⟨x.p, 0, none⟩)) ∧ w'.cell? ⟨b, 5, none⟩ = some (.int .i64 p.at_) ∧ w'.cell? ⟨b, 7, none⟩ = some (.string p.data)) (by kernel_rfl) ?_ (fun hHeld => ?_)
    · exact hsS
    refine wpAnyH_take (i := 0) (oi := _) (v := ?_) rfl (by kernel_rfl) (by kernel_rfl) (by kernel_rfl) (fun _ _ _ h => h) (Or.inl ⟨by rfl, ?_⟩) (by assumption) ?_
    rotate_left
    · (intro w hSw; (try dsimp only at hSw); go_simp; (try with_reducible rfl))
    simp only [Act.put, List.setIfInBounds_toArray]
    refine wpAnyH_take (i := 1) (oi := _) (v := ?_) rfl (by kernel_rfl) (by kernel_rfl) (by kernel_rfl) (fun _ _ _ h => h) (Or.inl ⟨by rfl, ?_⟩) (by assumption) ?_
    rotate_left
    · (intro w hSw; (try dsimp only at hSw); go_simp; (try with_reducible rfl))
    simp only [Act.put]
    refine wpAnyH_take (i := 2) (oi := _) (v := ?_) rfl (by kernel_rfl) (by kernel_rfl) (by kernel_rfl) (fun _ _ _ h => h) (Or.inl ⟨by rfl, ?_⟩) (by assumption) ?_
    rotate_left
    · (intro w hSw; (try dsimp only at hSw); go_simp; (try with_reducible rfl))
    simp only [Act.put]
    refine wpAnyH_take (i := 3) (oi := _) (v := ?_) rfl (by kernel_rfl) (by kernel_rfl) (by kernel_rfl) (fun _ _ _ h => h) (Or.inl ⟨by rfl, ?_⟩) (by assumption) ?_
    rotate_left
    · (intro w hSw; (try dsimp only at hSw); go_simp; (try with_reducible rfl))
    simp only [Act.put]
    refine wpAnyH_take (i := 4) (oi := _) (v := ?_) rfl (by kernel_rfl) (by kernel_rfl) (by kernel_rfl) (fun _ _ _ h => h) (Or.inl ⟨by rfl, ?_⟩) (by assumption) ?_
    rotate_left
    · (intro w hSw; (try dsimp only at hSw); go_simp; (try with_reducible rfl))
    simp only [Act.put]
    refine wpAnyH_take (i := 5) (oi := _) (v := ?_) rfl (by kernel_rfl) (by kernel_rfl) (by kernel_rfl) (fun _ _ _ h => h) (Or.inl ⟨by rfl, ?_⟩) (by assumption) ?_
    rotate_left
    · (intro w hSw; (try dsimp only at hSw); go_simp; (try with_reducible rfl))
    simp only [Act.put]
    refine wpAnyH_take (i := 6) (oi := _) (v := ?_) rfl (by kernel_rfl) (by kernel_rfl) (by kernel_rfl) (fun _ _ _ h => h) (Or.inl ⟨by rfl, ?_⟩) (by assumption) ?_
    rotate_left
    · (intro w hSw; (try dsimp only at hSw); go_simp; (try with_reducible rfl))
    simp only [Act.put]
    refine wpAnyH_take (i := 7) (oi := _) (v := ?_) rfl (by kernel_rfl) (by kernel_rfl) (by kernel_rfl) (fun _ _ _ h => h) (Or.inl ⟨by rfl, ?_⟩) (by assumption) ?_
    rotate_left
    · (intro w hSw; (try dsimp only at hSw); go_simp; (try with_reducible rfl))
    simp only [Act.put]
    refine wpAnyH_ready (rs := [8]) (by kernel_rfl) (by simp) ?_
    refine AllReadyH.cons (o := _) rfl (fun K hK => ?_) AllReadyH.nil
    go_simp
    refine hK.out _ _ (three_grow (bytesGrow _ _) (by assumption)) (fun hHeld2 => ?_)
    clear hK K
    refine wpAnyH_ready (rs := [9]) (by kernel_rfl) (by simp) ?_
    refine AllReadyH.cons (o := _) rfl (fun K hK => ?_) AllReadyH.nil
    go_simp
    refine (pm_storeAt HM2.out ?_ ?_ (bytes_of _ _ (by have := HSZ.out; omega)).1 p.at_).mono ?_
    · (repeat (first | exact Grow.refl _ | refine Grow.drew ?_ | refine Grow.drewN ?_ _ | refine Grow.trans ?_ (bytesGrow _ _)))
    · intro _ q hq
      injection hq with hq
      subst hq
      simp
    rintro e w5 ⟨⟨er, rfl⟩, h5, t5, t6⟩
    refine hK.out _ _ (three_turn t6 hcF hbF hbF hsS) (fun hHeld2 => ?_)
    clear hK K
    refine wpAnyH_done (by kernel_rfl) ?_ _
    all_goals
      go_wp2_with fail
      go_end0
      refine ⟨rfl, ?_⟩
      rw [putV, if_pos HOW.out.symm]
      exact ⟨h5, HR2.out.turnW t6 hgF, (Turn.grow HG2.out _).and (t6.mono fun k e => .inl e)⟩

set_option maxHeartbeats 8000000 in
set_option maxRecDepth 8000 in
theorem get_v {w : World} {c g : Nat} {x : MB} {m : MM} (hm : PM w x 2896 m.S m.T m.A) (hc : w.cell? ⟨c, 0, none⟩ = some (.pointer (some ⟨x.p, 0, none⟩))) {p : PK} (ha : AskOk p) (hi : p.ok) (hr : Row w g ((askP p).cells (.slice none 0 0))) (hgF : ¬ x.F g) (nv : Value) :
    Calls Try.prog 23 #[.pointer (some ⟨c, 0, none⟩), .agg #[.int .i64 p.kind, .int .i64 p.client, .int .i64 p.epoch, .int .i64 p.seq, .int .i64 p.op, .int .i64 p.at_, .int .i64 p.n, .string p.data, .int .i64 p.old, .int .i64 p.new, .int .i64 p.ckind, .string p.path, .string p.path2, .int .i64 p.flags, .int .i64 p.cfd, .int .i64 p.coff, .int .i64 p.cn, .string p.cdata, .int .i64 p.ino, .int .i64 p.errno, .int .i64 p.rerrno, .int .i64 p.rfd, .string p.rdata, nv, .int .i64 p.ikind, .int .i64 p.ilinks, .int .i64 p.isize, .int .i64 p.wrote, .int .i64 p.nkind, .int .i64 p.nlinks, .int .i64 p.nsize, .int .i64 p.b0, .int .i64 p.b1, .int .i64 p.b2, .int .i64 p.b3, .int .i64 p.o0, .int .i64 p.o1, .int .i64 p.o2, .int .i64 p.o3, .int .i64 p.o4, .int .i64 p.o5, .int .i64 p.o6, .int .i64 p.o7], .pointer (some ⟨g, 0, none⟩)] w fun e w' => e = .returned (.tuple #[]) ∧ VDone w w' x g (getV m p) := by
  obtain ⟨w1, b, hw1, hb, b1, g1, hl1⟩ := boxedP w p nv
  have hcl := Nat.lt_of_lt_of_le (World.block_lt_of_cell? w _ hc) g1.size
  have hgl := Nat.lt_of_lt_of_le hr.1.1 g1.size
  have hbF : ¬ x.F b := fun q => by have := hm.lt _ q; omega
  have hbg : ¬ b = g := by have := hr.1.1; omega
  have HM := Lib.hid (hm.keep g1)
  have HR := Lib.hid (hr.keep g1)
  have HC := Lib.hid (g1.cell hc)
  have HA := Lib.hid ha
  have HI := Lib.hid hi
  have BX := Lib.hid b1
  have HG := Lib.hid g1
  clear hm hr hc ha hi b1 g1
  go_enter Try.func23, Try.ntmps23
  go_upto_region 1 with (fail)
  rw [← hw1, ← hb]
  clear hw1 hb
  have c1 := BX.out.1.2 1 _ rfl
  have c5 := BX.out.1.2 5 _ rfl
  have c6 := BX.out.1.2 6 _ rfl
  go_wp2_with fail
  refine (may_w HA.out.client HA.out.at_ HA.out.n _).mono ?_
  rintro e w2 ⟨rfl, g2⟩
  have HM2 := Lib.hid (HM.out.keep g2)
  have HR2 := Lib.hid (HR.out.keep g2)
  have HC2 := Lib.hid (g2.cell HC.out)
  have BX2 := Lib.hid (BX.out.keep g2)
  have HG2 := Lib.hid (HG.out.trans g2)
  replace hcl := Nat.lt_of_lt_of_le hcl g2.size
  replace hgl := Nat.lt_of_lt_of_le hgl g2.size
  replace hl1 := Nat.lt_of_lt_of_le hl1 g2.size
  clear g2 HM HR HC BX HG c1 c5 c6
  obtain ⟨ow, how⟩ : ∃ z, z = mayP p.client p.at_ p.n := ⟨_, rfl⟩
  rw [← how]
  have HOW := Lib.hid how
  clear how
  cases ow with
  | false =>
    obtain ⟨d19, f19⟩ := errno_at HR2.out
    go_wp2_with fail
    (try simp only [Exit.inBlock, Exit.then])
    refine bodyPost_ret (results_none rfl _ _ _) rfl ?_
    refine ⟨rfl, ?_⟩
    rw [getV, if_neg (by rw [← HOW.out]; decide)]
    exact VDone.no HM2.out HR2.out hgF HG2.out
  | true =>
    have hsS := And.intro HC2.out (And.intro (BX2.out.1.2 5 _ rfl) (BX2.out.1.2 6 _ rfl))
    go_upto_region 3 with (fail)
    go_region_held3 (fun w' => w'.cell? ⟨c, 0, none⟩ = some (.pointer (some ⟨x.p, 0, none⟩)) ∧ w'.cell? ⟨b, 5, none⟩ = some (.int .i64 p.at_) ∧ w'.cell? ⟨b, 6, none⟩ = some (.int .i64 p.n)) (first | exact hsS | exact hs3) ((go_at_call 7; refine (pm_loadU (HM2.out.keep ?_) p.at_ p.n HI.out.n.1 HI.out.n.2).mono ?_; (repeat (first | exact Grow.refl _ | refine Grow.drew ?_ | refine Grow.drewN ?_ _)); rintro e w3 ⟨A3, c3, rfl, o3, g3⟩; have G3 : Grow w2 w3 := Grow.trans (by (repeat (first | exact Grow.refl _ | refine Grow.drew ?_ | refine Grow.drewN ?_ _))) g3; have hs3 := three_grow G3 hsS; have HO3 := Lib.hid o3; clear o3 g3))
    all_goals
      obtain ⟨n3, hn3⟩ : ∃ z, z = loadM 2896 p.at_ p.n := ⟨_, rfl⟩
      rw [← hn3] at HO3 ⊢
      have cv := conv_s (c := c3) HO3.out.sl
      have HR3 := Lib.hid (HR2.out.keep G3)
      obtain ⟨d7, f7⟩ := data_at HR3.out
      have HM3 := Lib.hid (HM2.out.keep G3)
      have HG3 := Lib.hid (HG2.out.trans G3)
      clear hn3 G3 hsS hs3
      go_wp2_with fail
      go_end0
      refine ⟨rfl, ?_⟩
      rw [getV, if_pos HOW.out.symm]
      have t : Turn (fun k => k = g) w3 (w3.setCell ⟨g, 7, none⟩ (.string ⟨(loadL 2896 m.S p.at_ p.n).toArray⟩)) := Turn.setCell (F := fun k => k = g) w3 (p := ⟨g, 7, none⟩) rfl _
      exact ⟨HM3.out.turn t (fun k e => by rw [e]; exact hgF), HR3.out.set (j := 7) (show 7 < 43 by decide), (Turn.grow HG3.out _).and (t.mono fun k e => .inr e)⟩

set_option maxHeartbeats 8000000 in
set_option maxRecDepth 8000 in
theorem flush_v {w : World} {c g : Nat} {x : MB} {m : MM} (hm : PM w x 2896 m.S m.T m.A) (hc : w.cell? ⟨c, 0, none⟩ = some (.pointer (some ⟨x.p, 0, none⟩))) (hcF : ¬ x.F c) {p : PK} (ha : AskOk p) (hi : p.ok) (hr : Row w g ((askP p).cells (.slice none 0 0))) (hgF : ¬ x.F g) (nv : Value) :
    Calls Try.prog 24 #[.pointer (some ⟨c, 0, none⟩), .agg #[.int .i64 p.kind, .int .i64 p.client, .int .i64 p.epoch, .int .i64 p.seq, .int .i64 p.op, .int .i64 p.at_, .int .i64 p.n, .string p.data, .int .i64 p.old, .int .i64 p.new, .int .i64 p.ckind, .string p.path, .string p.path2, .int .i64 p.flags, .int .i64 p.cfd, .int .i64 p.coff, .int .i64 p.cn, .string p.cdata, .int .i64 p.ino, .int .i64 p.errno, .int .i64 p.rerrno, .int .i64 p.rfd, .string p.rdata, nv, .int .i64 p.ikind, .int .i64 p.ilinks, .int .i64 p.isize, .int .i64 p.wrote, .int .i64 p.nkind, .int .i64 p.nlinks, .int .i64 p.nsize, .int .i64 p.b0, .int .i64 p.b1, .int .i64 p.b2, .int .i64 p.b3, .int .i64 p.o0, .int .i64 p.o1, .int .i64 p.o2, .int .i64 p.o3, .int .i64 p.o4, .int .i64 p.o5, .int .i64 p.o6, .int .i64 p.o7], .pointer (some ⟨g, 0, none⟩)] w fun e w' => e = .returned (.tuple #[]) ∧ VDone w w' x g (flushV m p) := by
  obtain ⟨w1, b, hw1, hb, b1, g1, hl1⟩ := boxedP w p nv
  have hcl := Nat.lt_of_lt_of_le (World.block_lt_of_cell? w _ hc) g1.size
  have hgl := Nat.lt_of_lt_of_le hr.1.1 g1.size
  have hbF : ¬ x.F b := fun q => by have := hm.lt _ q; omega
  have hbg : ¬ b = g := by have := hr.1.1; omega
  have HM := Lib.hid (hm.keep g1)
  have HR := Lib.hid (hr.keep g1)
  have HC := Lib.hid (g1.cell hc)
  have HA := Lib.hid ha
  have HI := Lib.hid hi
  have BX := Lib.hid b1
  have HG := Lib.hid g1
  clear hm hr hc ha hi b1 g1
  go_enter Try.func24, Try.ntmps24
  go_upto_region 1 with (fail)
  rw [← hw1, ← hb]
  clear hw1 hb
  have c1 := BX.out.1.2 1 _ rfl
  have c5 := BX.out.1.2 5 _ rfl
  have c6 := BX.out.1.2 6 _ rfl
  go_wp2_with fail
  refine (own_w HA.out.client (by have := HA.out.at_; omega) (by have := HA.out.n; omega) _).mono ?_
  rintro e w2 ⟨rfl, g2⟩
  have HM2 := Lib.hid (HM.out.keep g2)
  have HR2 := Lib.hid (HR.out.keep g2)
  have HC2 := Lib.hid (g2.cell HC.out)
  have BX2 := Lib.hid (BX.out.keep g2)
  have HG2 := Lib.hid (HG.out.trans g2)
  replace hcl := Nat.lt_of_lt_of_le hcl g2.size
  replace hgl := Nat.lt_of_lt_of_le hgl g2.size
  replace hl1 := Nat.lt_of_lt_of_le hl1 g2.size
  clear g2 HM HR HC BX HG c1 c5 c6
  obtain ⟨ow, how⟩ : ∃ z, z = ownP p.client p.at_ p.n := ⟨_, rfl⟩
  rw [← how]
  have HOW := Lib.hid how
  clear how
  cases ow with
  | false =>
    obtain ⟨d19, f19⟩ := errno_at HR2.out
    go_wp2_with fail
    (try simp only [Exit.inBlock, Exit.then])
    refine bodyPost_ret (results_none rfl _ _ _) rfl ?_
    refine ⟨rfl, ?_⟩
    rw [flushV, if_neg (by rw [← HOW.out]; decide)]
    exact VDone.no HM2.out HR2.out hgF HG2.out
  | true =>
    have hsS := And.intro HC2.out (And.intro (BX2.out.1.2 5 _ rfl) (BX2.out.1.2 6 _ rfl))
    go_upto_region 3 with (fail)
    go_region_held3 (fun w' => w'.cell? ⟨c, 0, none⟩ = some (.pointer (some ⟨x.p, 0, none⟩)) ∧ w'.cell? ⟨b, 5, none⟩ = some (.int .i64 p.at_) ∧ w'.cell? ⟨b, 6, none⟩ = some (.int .i64 p.n)) (first | exact hsS | exact hs3) ((go_at_call 58; go_loud (refine (pm_flushU (HM2.out.keep ?_) p.at_ p.n HI.out.n.1 HI.out.n.2).mono ?_; (repeat (first | exact Grow.refl _ | refine Grow.drew ?_ | refine Grow.drewN ?_ _)); rintro e w3 ⟨rfl, h3, t3⟩; have T3 : Turn x.F w2 w3 := (Turn.grow (by (repeat (first | exact Grow.refl _ | refine Grow.drew ?_ | refine Grow.drewN ?_ _))) x.F).and t3; have hs3 := three_turn T3 hcF hbF hbF hsS)))
    all_goals
      have HM3 := Lib.hid h3
      have HR3 := Lib.hid (HR2.out.turnW T3 hgF)
      have HT3 := Lib.hid ((Turn.grow HG2.out x.F).and T3)
      have c0 := hs3.1
      clear h3 t3 T3 hsS hs3
      go_wp2_with fail
      refine (pm_fence HM3.out).mono ?_
      rintro e w4 ⟨rfl, h4, t4⟩
      go_wp2_with fail
      go_end0
      refine ⟨rfl, ?_⟩
      rw [flushV, if_pos HOW.out.symm]
      exact ⟨h4, HR3.out.turnW t4 hgF, (HT3.out.and t4).mono fun k e => .inl e⟩

set_option maxHeartbeats 8000000 in
set_option maxRecDepth 8000 in
theorem swap_v {w : World} {c g : Nat} {x : MB} {m : MM} (hm : PM w x 2896 m.S m.T m.A) (hc : w.cell? ⟨c, 0, none⟩ = some (.pointer (some ⟨x.p, 0, none⟩))) (hcF : ¬ x.F c) {p : PK} (ha : AskOk p) (hi : p.ok) (hr : Row w g ((askP p).cells (.slice none 0 0))) (hgF : ¬ x.F g) (hcg : ¬ c = g) (nv : Value) :
    Calls Try.prog 25 #[.pointer (some ⟨c, 0, none⟩), .agg #[.int .i64 p.kind, .int .i64 p.client, .int .i64 p.epoch, .int .i64 p.seq, .int .i64 p.op, .int .i64 p.at_, .int .i64 p.n, .string p.data, .int .i64 p.old, .int .i64 p.new, .int .i64 p.ckind, .string p.path, .string p.path2, .int .i64 p.flags, .int .i64 p.cfd, .int .i64 p.coff, .int .i64 p.cn, .string p.cdata, .int .i64 p.ino, .int .i64 p.errno, .int .i64 p.rerrno, .int .i64 p.rfd, .string p.rdata, nv, .int .i64 p.ikind, .int .i64 p.ilinks, .int .i64 p.isize, .int .i64 p.wrote, .int .i64 p.nkind, .int .i64 p.nlinks, .int .i64 p.nsize, .int .i64 p.b0, .int .i64 p.b1, .int .i64 p.b2, .int .i64 p.b3, .int .i64 p.o0, .int .i64 p.o1, .int .i64 p.o2, .int .i64 p.o3, .int .i64 p.o4, .int .i64 p.o5, .int .i64 p.o6, .int .i64 p.o7], .pointer (some ⟨g, 0, none⟩)] w fun e w' => e = .returned (.tuple #[]) ∧ VDone w w' x g (swapV m p) := by
  obtain ⟨w1, b, hw1, hb, b1, g1, hl1⟩ := boxedP w p nv
  have hcl := Nat.lt_of_lt_of_le (World.block_lt_of_cell? w _ hc) g1.size
  have hgl := Nat.lt_of_lt_of_le hr.1.1 g1.size
  have hbF : ¬ x.F b := fun q => by have := hm.lt _ q; omega
  have hbg : ¬ b = g := by have := hr.1.1; omega
  have HM := Lib.hid (hm.keep g1)
  have HR := Lib.hid (hr.keep g1)
  have HC := Lib.hid (g1.cell hc)
  have HA := Lib.hid ha
  have HI := Lib.hid hi
  have BX := Lib.hid b1
  have HG := Lib.hid g1
  clear hm hr hc ha hi b1 g1
  go_enter Try.func25, Try.ntmps25
  go_upto_region 1 with (fail)
  rw [← hw1, ← hb]
  clear hw1 hb
  have c5 := BX.out.1.2 5 _ rfl
  by_cases h8 : p.at_ % 8 = 0
  · have z3 : (Int.tmod p.at_ 8 != 0) = false := by rw [Int.tmod_eq_emod_of_nonneg HA.out.at_.1, h8]; rfl
    have z4 : Int.tmod p.at_ 8 = 0 := by rw [Int.tmod_eq_emod_of_nonneg HA.out.at_.1, h8]
    have c1 := BX.out.1.2 1 _ rfl
    go_wp2_with fail
    refine (own_w HA.out.client (by have := HA.out.at_; omega) (by omega) _).mono ?_
    rintro e w2 ⟨rfl, g2⟩
    have HM2 := Lib.hid (HM.out.keep g2)
    have HR2 := Lib.hid (HR.out.keep g2)
    have HC2 := Lib.hid (g2.cell HC.out)
    have BX2 := Lib.hid (BX.out.keep g2)
    have HG2 := Lib.hid (HG.out.trans g2)
    replace hcl := Nat.lt_of_lt_of_le hcl g2.size
    replace hgl := Nat.lt_of_lt_of_le hgl g2.size
    replace hl1 := Nat.lt_of_lt_of_le hl1 g2.size
    clear g2 HM HR HC BX HG c1 c5
    obtain ⟨ow, how⟩ : ∃ z, z = ownP p.client p.at_ 8 := ⟨_, rfl⟩
    rw [← how]
    have HOW := Lib.hid how
    clear how
    cases ow with
    | false =>
      obtain ⟨d19, f19⟩ := errno_at HR2.out
      go_wp2_with fail
      (try simp only [Exit.inBlock, Exit.then])
      refine bodyPost_ret (results_none rfl _ _ _) rfl ?_
      refine ⟨rfl, ?_⟩
      rw [swapV, if_neg (by unfold swapB; rw [← HOW.out]; simp)]
      exact VDone.no HM2.out HR2.out hgF HG2.out
    | true =>
      have hsS := And.intro HC2.out (And.intro (BX2.out.1.2 5 _ rfl) (BX2.out.1.2 5 _ rfl))
      have HSW := Lib.hid (show swapB p = true by unfold swapB; rw [← HOW.out, decide_eq_true h8]; rfl)
      have HCE := Lib.hid (swap_cell HM2.out.lenS HA.out.client HOW.out.symm)
      clear z3 z4 h8
      go_upto_region 3 with (fail)
      go_region_held3 (fun w' => w'.cell? ⟨c, 0, none⟩ = some (.pointer (some ⟨x.p, 0, none⟩)) ∧ w'.cell? ⟨b, 5, none⟩ = some (.int .i64 p.at_) ∧ w'.cell? ⟨b, 5, none⟩ = some (.int .i64 p.at_)) (first | exact hsS | exact hs3) ((go_at_call 7; refine (pm_loadU (HM2.out.keep ?_) p.at_ 8 (by decide) (by decide)).mono ?_; (repeat (first | exact Grow.refl _ | refine Grow.drew ?_ | refine Grow.drewN ?_ _)); rintro e w3 ⟨A3, c3, rfl, o3, g3⟩; have G3 : Grow w2 w3 := Grow.trans (by (repeat (first | exact Grow.refl _ | refine Grow.drew ?_ | refine Grow.drewN ?_ _))) g3; have hs3 := three_grow G3 hsS; have HO3 := Lib.hid o3; clear o3 g3))
      all_goals
        rw [HCE.out.1] at HO3 ⊢
        have HR3 := Lib.hid (HR2.out.keep G3)
        have HM3 := Lib.hid (HM2.out.keep G3)
        have HG3 := Lib.hid (HG2.out.trans G3)
        have BX3 := Lib.hid (BX2.out.keep G3)
        have HC3 := Lib.hid (G3.cell HC2.out)
        obtain ⟨d8, f8⟩ := old_at HR3.out
        clear G3 hsS hs3
        go_wp2_with fail
        refine (get_s HO3.out.sl (by decide) (by decide)).mono ?_
        rintro e w4 ⟨rfl, rfl⟩
        rw [HCE.out.2]
        obtain ⟨cv, hcv⟩ : ∃ z, z = getN m.S p.at_ 8 := ⟨_, rfl⟩
        rw [← hcv]
        have HCV := Lib.hid (show cellP m p = cv from hcv.symm)
        clear hcv
        have t : Turn (fun k => k = g) w3 (w3.setCell ⟨g, 8, none⟩ (.int .i64 cv)) := Turn.setCell (F := fun k => k = g) w3 (p := ⟨g, 8, none⟩) rfl _
        have HM4 := Lib.hid (HM3.out.turn t (fun k e => by rw [e]; exact hgF))
        have HR4 := Lib.hid (show Row (w3.setCell ⟨g, 8, none⟩ (.int .i64 cv)) g ((ansP p 0 ⟨#[]⟩ cv).cells (.slice none 0 0)) from HR3.out.set (j := 8) (show 8 < 43 by decide))
        have HT4 := Lib.hid ((Turn.grow HG3.out _).and (t.mono (G := fun k => x.F k ∨ k = g) fun k e => .inr e))
        have BX4 := Lib.hid (BX3.out.turnW t hbg)
        have HC4 := Lib.hid (t.cellW HC3.out hcg)
        clear t HM3 HR3 HG3 BX3 HC3
        go_upto_region 5 with (fail)
        obtain ⟨w4, hw4⟩ : ∃ z, z = w3.setCell ⟨g, 8, none⟩ (.int .i64 cv) := ⟨_, rfl⟩
        rw [← hw4] at HM4 HR4 HT4 BX4 HC4 ⊢
        clear hw4 d8 f8
        have d8 : w4.cell? ⟨g, 8, none⟩ = some (.int .i64 cv) := (old_at HR4.out).1
        have x8 : w4.cell? ⟨b, 8, none⟩ = some (.int .i64 p.old) := BX4.out.1.2 8 _ rfl
        have hsS := And.intro HC4.out (And.intro (BX4.out.1.2 5 _ rfl) (BX4.out.1.2 9 _ rfl))
        have HRS := Lib.hid (show swapV m p = (ansP p 0 ⟨#[]⟩ cv, if cv = p.old then m.store p.at_ (leB p.new.toNat 8) else m) by rw [swapV, if_pos HSW.out, HCV.out])
        by_cases he : cv = p.old
        · have z0 : (cv == p.old) = true := beq_iff_eq.2 he
          rw [if_pos he] at HRS
          clear he
          go_quiet (fail)
          go_upto_region 6 with (fail)
          go_region_held3 (fun w' => w'.cell? ⟨c, 0, none⟩ = some (.pointer (some ⟨x.p, 0, none⟩)) ∧ w'.cell? ⟨b, 5, none⟩ = some (.int .i64 p.at_) ∧ w'.cell? ⟨b, 9, none⟩ = some (.int .i64 p.new)) (first | exact hsS | exact hs5 | exact hs6) (first
            | (go_at_call 51; refine (put_s 8 Sl.nil HA.out.new HI.out.new.2 rfl (by omega)).mono ?_; rintro e w5 ⟨A5, c5, rfl, o5, g5⟩; have G5 : Grow w4 w5 := Grow.trans (by (repeat (first | exact Grow.refl _ | refine Grow.drew ?_ | refine Grow.drewN ?_ _))) g5; have hs5 := three_grow G5 hsS; have HO5 := Lib.hid o5; clear o5 g5)
            | (go_at_call 56; go_loud (refine (pm_storeAt HM4.out ?_ (fun h0 q hq => by subst hq; exact (World.ownsRow.lt HO5.out.2.2 q.block rfl).1) (HO5.out.sl.keep ?_) p.at_).mono ?_; (repeat (first | exact Grow.refl _ | exact G5 | refine Grow.drew ?_ | refine Grow.drewN ?_ _)); rintro e w6 ⟨⟨er, rfl⟩, h6, t6, t7⟩; have hs6 := three_turn t7 hcF hbF hbF hsS)))
          all_goals
            go_wp2_with fail
            go_end0
            rw [HRS.out]
            exact ⟨rfl, h6, HR4.out.turnW t7 hgF, HT4.out.and (t7.mono fun k e => .inl e)⟩
        · have z0 : (cv == p.old) = false := beq_eq_false_iff_ne.2 he
          rw [if_neg he] at HRS
          clear he
          go_quiet (fail)
          go_wp2_with fail
          go_end0
          rw [HRS.out]
          exact ⟨rfl, VDone.keep ⟨HM4.out, HR4.out, HT4.out⟩ (by (repeat (first | exact Grow.refl _ | refine Grow.drew ?_ | refine Grow.drewN ?_ _)))⟩
  · have z3 : (Int.tmod p.at_ 8 != 0) = true := by rw [Int.tmod_eq_emod_of_nonneg HA.out.at_.1]; exact bne_iff_ne.2 h8
    have z4 : ¬ Int.tmod p.at_ 8 = 0 := by rw [Int.tmod_eq_emod_of_nonneg HA.out.at_.1]; exact h8
    obtain ⟨d19, f19⟩ := errno_at HR.out
    go_wp2_with fail
    (try simp only [Exit.inBlock, Exit.then])
    refine bodyPost_ret (results_none rfl _ _ _) rfl ?_
    refine ⟨rfl, ?_⟩
    rw [swapV, if_neg (by unfold swapB; rw [decide_eq_false h8]; simp)]
    exact VDone.no HM.out HR.out hgF HG.out
end Go.Proofs.Ytdlcpfgogjcciaa
