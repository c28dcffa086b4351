/- What the laws of chapter 07 share. No statement of the seat is proved here. -/
import Derived.Test.YtgjcpchlijpjmaaZ14
namespace Go.Proofs.Ytgjcpchlijpjmaa
open Go.RowKit Go.Great

/-- The numbers are such as a machine holds. -/
structure PK.nums (p : PK) : Prop where
  kind : i64B p.kind
  client : i64B p.client
  epoch : i64B p.epoch
  seq : i64B p.seq
  op : i64B p.op
  at_ : i64B p.at_
  n : i64B p.n
  old : i64B p.old
  new : i64B p.new
  ckind : i64B p.ckind
  flags : i64B p.flags
  cfd : i64B p.cfd
  coff : i64B p.coff
  cn : i64B p.cn
  ino : i64B p.ino
  errno : i64B p.errno
  rerrno : i64B p.rerrno
  rfd : i64B p.rfd
  ikind : i64B p.ikind
  ilinks : i64B p.ilinks
  isize : i64B p.isize
  wrote : i64B p.wrote
  nkind : i64B p.nkind
  nlinks : i64B p.nlinks
  nsize : i64B p.nsize
  b0 : i64B p.b0
  b1 : i64B p.b1
  b2 : i64B p.b2
  b3 : i64B p.b3
  o0 : i64B p.o0
  o1 : i64B p.o1
  o2 : i64B p.o2
  o3 : i64B p.o3
  o4 : i64B p.o4
  o5 : i64B p.o5
  o6 : i64B p.o6
  o7 : i64B p.o7
theorem fewP_ok {p : PK} (h : p.nums) : (fewP p).ok := {
  kind := h.kind
  client := h.client
  epoch := h.epoch
  seq := h.seq
  op := h.op
  at_ := h.at_
  n := h.n
  old := h.old
  new := h.new
  ckind := h.ckind
  flags := h.flags
  cfd := h.cfd
  coff := h.coff
  cn := h.cn
  ino := h.ino
  errno := h.errno
  rerrno := h.rerrno
  rfd := h.rfd
  ikind := h.ikind
  ilinks := h.ilinks
  isize := h.isize
  wrote := h.wrote
  nkind := h.nkind
  nlinks := h.nlinks
  nsize := h.nsize
  b0 := h.b0
  b1 := h.b1
  b2 := h.b2
  b3 := h.b3
  o0 := h.o0
  o1 := h.o1
  o2 := h.o2
  o3 := h.o3
  o4 := h.o4
  o5 := h.o5
  o6 := h.o6
  o7 := h.o7
  data := by have := cutS_size 150 p.data; show (cutS 150 p.data).size ≤ 1000; omega
  path := by have := cutS_size 150 p.path; show (cutS 150 p.path).size ≤ 1000; omega
  path2 := by have := cutS_size 150 p.path2; show (cutS 150 p.path2).size ≤ 1000; omega
  names := by
    refine ⟨?_, fun s hs => ?_⟩
    · show ((p.names.take 20).map (cutS 20)).length ≤ 300
      rw [List.length_map, List.length_take]; omega
    · obtain ⟨r, -, rfl⟩ := List.mem_map.1 (show s ∈ (p.names.take 20).map (cutS 20) from hs)
      have := cutS_size 20 r; omega }
def putE (p : PK) : Int := if (putP p).isSome = true then 0 else 1
def putL (p : PK) : List UInt8 := (putP p).getD []
theorem putE_ok {p : PK} (h : putE p = 0) : ∃ l, innerP p = some l ∧ normP p = p ∧ putL p = sumB l ∧ putP p = some (sumB l) := by
  unfold putE at h
  split at h
  · rename_i hs
    obtain ⟨y, hy⟩ := Option.isSome_iff_exists.1 hs
    have hy' := hy
    unfold putP at hy'
    obtain ⟨l, h1, h2⟩ := Option.bind_eq_some_iff.1 hy'
    split at h2
    · rename_i hn
      injection h2 with h2
      exact ⟨l, h1, hn, by unfold putL; rw [hy, ← h2]; rfl, by rw [hy, ← h2]⟩
    · cases h2
  · cases h
theorem putE_bad {p : PK} (h : ¬ putE p = 0) : putE p = 1 ∧ putL p = [] := by
  unfold putE putL at *
  cases hp : putP p with
  | none => exact ⟨rfl, rfl⟩
  | some y => rw [hp] at h; exact absurd rfl h
theorem put_read {p : PK} (hp : p.ok) (h : putE p = 0) : rdE (putL p) = 0 ∧ rdV (putL p) = p := by
  obtain ⟨l, h1, h2, h3, -⟩ := putE_ok h
  rw [h3]
  obtain ⟨r1, r2⟩ := put_reads h1 hp.wide
  exact ⟨r1, by rw [r2, h2]⟩
theorem put_one {p q : PK} (hp : p.ok) (hq : q.ok) (h : putE p = 0) (k : putE q = 0) : decide (putL p = putL q) = decide (p = q) := by
  rw [Bool.eq_iff_iff, decide_eq_true_iff, decide_eq_true_iff]
  constructor
  · intro e
    have h1 := (put_read hp h).2
    rw [e, (put_read hq k).2] at h1
    exact h1.symm
  · rintro rfl; rfl
theorem read_put {bs : List UInt8} (h : rdE bs = 0) : putP (rdV bs) = some bs ∧ putE (rdV bs) = 0 ∧ putL (rdV bs) = bs := by
  have h4 : ¬ bs.length < 4 := fun e => by rw [(rdE_short e).1] at h; cases h
  by_cases hs : getN bs ((bs.length - 4 : Nat) : Int) 4 = (crcN (bs.take (bs.length - 4)) : Nat)
  · cases hk : okP (bs.take (bs.length - 4)) with
    | false => rw [(rdE_bad h4 hs hk).1] at h; cases h
    | true =>
      have hv := (rdE_ok h4 hs hk).2
      obtain ⟨i1, i2⟩ := parse_inv hk
      have e := (seal_iff (bs := bs) (m := bs.length - 4) (by omega)).2 hs
      have hput : putP (rdV bs) = some bs := by rw [hv, putP_some i1 i2, e]
      exact ⟨hput, by unfold putE; rw [hput]; rfl, by unfold putL; rw [hput]; rfl⟩
  · rw [(rdE_sum h4 hs).1] at h; cases h
theorem rN_i64 (o : OBs) (w : Nat) : i64B (rN o w) := by
  have := rN_range o w
  exact ⟨by omega, this.2⟩
theorem rTs_size (o : OBs) (w : Nat) (m : Nat) : (rTs o w (m : Int)).size ≤ m := by
  unfold rTs
  cases rNr o w with
  | none => exact Nat.zero_le _
  | some b =>
    simp only [Option.elim_some]
    split
    · rename_i h
      simp only [ByteArray.size, List.size_toArray, List.length_take]
      omega
    · exact Nat.zero_le _
theorem rNames_ok (k : Nat) : ∀ o, (rNames true k o).1.length ≤ k ∧ ∀ s ∈ (rNames true k o).1, s.size ≤ 12 := by
  induction k with
  | zero => intro o; exact ⟨Nat.le_refl _, fun s hs => absurd hs List.not_mem_nil⟩
  | succ k ih =>
    intro o
    cases o with
    | none => exact ⟨Nat.zero_le _, fun s hs => absurd hs List.not_mem_nil⟩
    | some b =>
      obtain ⟨h1, h2⟩ := ih (rTr (some b) 1 (mo true 12))
      refine ⟨Nat.succ_le_succ h1, fun s hs => ?_⟩
      rcases List.mem_cons.1 hs with rfl | hs
      · exact rTs_size (some b) 1 12
      · exact h2 s hs
theorem rN1_lt (o : OBs) : rN o 1 < 256 := by
  cases o with
  | none => exact (by decide : (0 : Int) < 256)
  | some b =>
    show (if getK b 0 1 = true then getN b 0 1 else 0) < 256
    split
    · exact get_lt (b := b) (a := 0) (wd := 1) (.inl rfl)
    · decide
theorem zero_i64 : i64B 0 := ⟨by decide, by decide⟩
theorem zero_ok : ({} : PK).ok := ⟨zero_i64, zero_i64, zero_i64, zero_i64, zero_i64, zero_i64, zero_i64, Nat.zero_le _, zero_i64, zero_i64, zero_i64, Nat.zero_le _, Nat.zero_le _, zero_i64, zero_i64, zero_i64, zero_i64, zero_i64, zero_i64, zero_i64, zero_i64, ⟨Nat.zero_le _, fun _ hs => absurd hs List.not_mem_nil⟩, zero_i64, zero_i64, zero_i64, zero_i64, zero_i64, zero_i64, zero_i64, zero_i64, zero_i64, zero_i64, zero_i64, zero_i64, zero_i64, zero_i64, zero_i64, zero_i64, zero_i64, zero_i64, zero_i64⟩
theorem parse_ok (b : List UInt8) : (parseP true b).1.ok := by
  have h0 : (rHead (some b)).ok := { zero_ok with kind := rN_i64 (some b) 1, client := rN_i64 (rNr (some b) 1) 1, epoch := rN_i64 (rNr (rNr (some b) 1) 1) 4, seq := rN_i64 (rNr (rNr (rNr (some b) 1) 1) 4) 8 }
  obtain ⟨q, hq⟩ : ∃ q, q = rHead (some b) := ⟨_, rfl⟩
  obtain ⟨o, ho⟩ : ∃ o, o = rHeadR (some b) := ⟨_, rfl⟩
  unfold parseP
  rw [← hq, ← ho]
  rw [← hq] at h0
  clear hq ho
  have t128 : ∀ o w, (rTs o w (mo true 128)).size ≤ 1000 := fun o w => by have := rTs_size o w 128; exact Nat.le_trans this (by decide)
  have t100 : ∀ o w, (rTs o w (mo true 100)).size ≤ 1000 := fun o w => by have := rTs_size o w 100; exact Nat.le_trans this (by decide)
  unfold rBody
  split
  · exact { h0 with op := rN_i64 _ _, at_ := rN_i64 _ _, n := rN_i64 _ _, data := t128 _ _, old := rN_i64 _ _, new := rN_i64 _ _ }
  split
  · exact { h0 with op := rN_i64 _ _, errno := rN_i64 _ _, data := t128 _ _, old := rN_i64 _ _ }
  split
  · exact { h0 with op := rN_i64 _ _, ino := rN_i64 _ _, path := t100 _ _, path2 := t100 _ _, flags := rN_i64 _ _, cn := rN_i64 _ _ }
  split
  · refine { h0 with op := rN_i64 _ _, errno := rN_i64 _ _, ino := rN_i64 _ _, wrote := rN_i64 _ _, at_ := rN_i64 _ _, ikind := rN_i64 _ _, ilinks := rN_i64 _ _, isize := rN_i64 _ _, nkind := rN_i64 _ _, nlinks := rN_i64 _ _, nsize := rN_i64 _ _, b0 := rN_i64 _ _, b1 := rN_i64 _ _, b2 := rN_i64 _ _, b3 := rN_i64 _ _, names := ?_ }
    obtain ⟨m, hm⟩ : ∃ m, m = rN (rNr (rNr (rNr (rNr (rNr (rNr (rNr (rNr (rNr (rNr (rNr (rNr (rNr (rNr (rNr o 1) 1) 1) 8) 4) 1) 1) 2) 1) 1) 2) 1) 1) 1) 1) 1 := ⟨_, rfl⟩
    have hlt : m < 256 := by rw [hm]; exact rN1_lt _
    obtain ⟨x1, x2⟩ := rNames_ok m.toNat (gd (!true || decide (m ≤ 16)) (rNr (rNr (rNr (rNr (rNr (rNr (rNr (rNr (rNr (rNr (rNr (rNr (rNr (rNr (rNr (rNr o 1) 1) 1) 8) 4) 1) 1) 2) 1) 1) 2) 1) 1) 1) 1) 1))
    subst hm
    exact ⟨Nat.le_trans x1 (by omega), fun s hs => Nat.le_trans (x2 s hs) (by decide)⟩
  split
  · exact { h0 with ino := rN_i64 _ _ }
  · exact h0
theorem rdV_ok (bs : List UInt8) : (rdV bs).ok := by
  unfold rdV
  split
  · exact parse_ok _
  · exact zero_ok
theorem pN_len {o : OBs} {n : Int} {w : Nat} {l : List UInt8} (h : pN o n w = some l) : ∃ y, o = some y ∧ l.length = y.length + w := by
  obtain ⟨y, e, -, rfl⟩ := pN_some h
  exact ⟨y, e, by rw [List.length_append, leB_length]⟩
theorem pT_len {o : OBs} {s : ByteArray} {w : Nat} {m : Int} {l : List UInt8} (h : pT o s w m = some l) : ∃ y, o = some y ∧ l.length = y.length + w + s.size := by
  obtain ⟨y, e, -, -, rfl⟩ := pT_some h
  exact ⟨y, e, by rw [List.length_append, List.length_append, leB_length, data_length]; omega⟩
theorem pTs_len (L : List ByteArray) : ∀ {o : OBs} {l : List UInt8}, pTs o L = some l → (∀ s ∈ L, s.size ≤ 1000) → ∃ y, o = some y ∧ l.length ≤ y.length + 1001 * L.length := by
  induction L with
  | nil => intro o l h _; exact ⟨l, h, by simp⟩
  | cons s L ih =>
    intro o l h hs
    obtain ⟨y, e, h1⟩ := ih (o := pT o s 1 12) h (fun s' h' => hs s' (List.mem_cons_of_mem _ h'))
    obtain ⟨z, e2, h2⟩ := pT_len e
    have := hs s List.mem_cons_self
    exact ⟨z, e2, by rw [List.length_cons]; omega⟩
theorem head_len {p : PK} {l : List UInt8} (h : headP p = some l) : l.length = 14 := by
  obtain ⟨a, e1, h1⟩ := pN_len h
  obtain ⟨b, e2, h2⟩ := pN_len e1
  obtain ⟨c, e3, h3⟩ := pN_len e2
  obtain ⟨d, e4, h4⟩ := pN_len e3
  obtain ⟨-, e5⟩ := gd_some e4
  injection e5 with e5
  subst e5
  simp at h4
  omega
theorem inner_few {p : PK} {l : List UInt8} (hp : p.ok) (h : innerP p = some l) : l.length ≤ 400000 := by
  have hd := hp.data
  have hpa := hp.path
  have hpb := hp.path2
  by_cases k1 : p.kind = 1
  · rw [(kind1 k1).1] at h
    obtain ⟨a1, e1, h1⟩ := pN_len h
    obtain ⟨a2, e2, h2⟩ := pN_len e1
    obtain ⟨a3, e3, h3⟩ := pT_len e2
    obtain ⟨a4, e4, h4⟩ := pN_len e3
    obtain ⟨a5, e5, h5⟩ := pN_len e4
    obtain ⟨a6, e6, h6⟩ := pN_len e5
    have := head_len (gd_some e6).2
    omega
  by_cases k2 : p.kind = 2
  · rw [(kind2 k2).1] at h
    obtain ⟨a1, e1, h1⟩ := pN_len h
    obtain ⟨a3, e3, h3⟩ := pT_len e1
    obtain ⟨a4, e4, h4⟩ := pN_len e3
    obtain ⟨a6, e6, h6⟩ := pN_len e4
    have := head_len (gd_some e6).2
    omega
  by_cases k3 : p.kind = 3
  · rw [(kind3 k3).1] at h
    obtain ⟨a1, e1, h1⟩ := pN_len h
    obtain ⟨a2, e2, h2⟩ := pN_len e1
    obtain ⟨a3, e3, h3⟩ := pT_len e2
    obtain ⟨a4, e4, h4⟩ := pT_len e3
    obtain ⟨a5, e5, h5⟩ := pN_len e4
    obtain ⟨a6, e6, h6⟩ := pN_len e5
    have := head_len e6
    omega
  by_cases k4 : p.kind = 4
  · rw [(kind4 k4).1] at h
    obtain ⟨a0, e0, h0⟩ := pTs_len p.names h hp.names.2
    obtain ⟨a1, e1, h1⟩ := pN_len e0
    have e2 := (gd_some e1).2
    obtain ⟨a2, e3, h3⟩ := pN_len e2
    obtain ⟨a3, e4, h4⟩ := pN_len e3
    obtain ⟨a4, e5, h5⟩ := pN_len e4
    obtain ⟨a5, e6, h6⟩ := pN_len e5
    obtain ⟨a6, e7, h7⟩ := pN_len e6
    obtain ⟨a7, e8, h8⟩ := pN_len e7
    obtain ⟨a8, e9, h9⟩ := pN_len e8
    obtain ⟨a9, e10, h10⟩ := pN_len e9
    obtain ⟨a10, e11, h11⟩ := pN_len e10
    obtain ⟨a11, e12, h12⟩ := pN_len e11
    obtain ⟨a12, e13, h13⟩ := pN_len e12
    obtain ⟨a13, e14, h14⟩ := pN_len e13
    obtain ⟨a14, e15, h15⟩ := pN_len e14
    obtain ⟨a15, e16, h16⟩ := pN_len e15
    obtain ⟨a16, e17, h17⟩ := pN_len e16
    have := head_len e17
    have := hp.names.1
    omega
  by_cases k5 : p.kind = 5
  · rw [(kind5 k5).1] at h
    obtain ⟨a1, e1, h1⟩ := pN_len h
    have := head_len e1
    omega
  · rw [kind0 (by omega)] at h
    cases h
theorem putL_few {p : PK} (hp : p.ok) : (putL p).length ≤ 500000 := by
  by_cases h : putE p = 0
  · obtain ⟨l, h1, -, h2, -⟩ := putE_ok h
    rw [h2, sumB_length]
    have := inner_few hp h1
    omega
  · rw [(putE_bad h).2]; exact Nat.zero_le _
theorem Sl.blk {w : World} {A : Option Addr} {n : Nat} {bs : List UInt8} (h : Sl w A n bs) : 0 < n → ∀ p, A = some p → p.block < w.heap.size := by
  intro h0 p hp
  obtain ⟨b, o, rfl, hb, -⟩ := h.all h0
  injection hp with hp
  subst hp
  exact hb
theorem Own.keepW {w w' : World} {base n c : Nat} {A : Option Addr} {bs : List UInt8} (h : Own w base A n c bs) (g : Grow w w') : Own w' base A n c bs := ⟨h.1, h.2.1, row_turnW h.2.2 (Turn.grow g (fun _ => False)) (fun _ _ q => q)⟩
theorem PutAns.form {w w' : World} {e : Ending} {p : PK} (h : PutAns w w' e (putP p)) : ∃ A n c, e = .returned (.tuple #[.slice A n c, .int .i64 (putE p)]) ∧ Own w' w.heap.size A n c (putL p) := by
  unfold putE putL
  cases hp : putP p with
  | none =>
    rw [hp] at h
    exact ⟨none, 0, 0, h, Own.nil _ _⟩
  | some b =>
    rw [hp] at h
    obtain ⟨A, n, c, h1, h2⟩ := h
    exact ⟨A, n, c, h1, h2⟩
theorem w_putK {w : World} {A : Option Addr} {k c : Nat} (p : PK) (hp : p.ok) (hk : k = p.names.length) (hr : RS w A k p.names) :
    Calls Try.prog 10 #[.agg (p.cells (.slice A k c)).toArray] w fun e w' => ∃ A' n' c', e = .returned (.tuple #[.slice A' n' c', .int .i64 (putE p)]) ∧ Own w' w.heap.size A' n' c' (putL p) ∧ Grow w w' := by
  subst hk
  refine (w_put p hp hr).mono ?_
  rintro e w' ⟨h, g⟩
  obtain ⟨A', n', c', h1, h2⟩ := h.form
  exact ⟨A', n', c', h1, h2, g⟩
theorem m_putK {w : World} {A : Option Addr} {k c : Nat} (p : PK) (hp : p.ok) (hk : k = p.names.length) (hr : RS w A k p.names) :
    Calls Try.prog 11 #[.agg (p.cells (.slice A k c)).toArray] w fun e w' => ∃ A' n' c', e = .returned (.tuple #[.slice A' n' c', .int .i64 (putE p)]) ∧ Own w' w.heap.size A' n' c' (putL p) ∧ Grow w w' := by
  subst hk
  refine (m_put p hp hr).mono ?_
  rintro e w' ⟨h, g⟩
  obtain ⟨A', n', c', h1, h2⟩ := h.form
  exact ⟨A', n', c', h1, h2, g⟩
theorem m_sameK {w : World} (p q : PK) {A A' : Option Addr} {k k' c c' : Nat} (hk : k = p.names.length) (hk' : k' = q.names.length) (hp : RS w A k p.names) (hq : RS w A' k' q.names) (hp3 : p.ok) (hq3 : q.ok) :
    Calls Try.prog 16 #[.agg (p.cells (.slice A k c)).toArray, .agg (q.cells (.slice A' k' c')).toArray] w fun e w' => ∃ b, e = .returned (.bool b) ∧ Hid (b = decide (p = q)) ∧ Grow w w' := by
  subst hk hk'
  refine (m_sameC p q hp hq hp3.names.1 hq3.names.1).mono ?_
  rintro e w' ⟨rfl, g⟩
  exact ⟨_, rfl, Lib.hid rfl, g⟩
end Go.Proofs.Ytgjcpchlijpjmaa
