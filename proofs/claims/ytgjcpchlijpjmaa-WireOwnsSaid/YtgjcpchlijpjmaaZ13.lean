/- The document's Put. The document's reader: what follows the head of an answer to a question. No statement of the seat is proved here. -/
import Derived.Test.YtgjcpchlijpjmaaZ12
namespace Go.Proofs.Ytgjcpchlijpjmaa
open Go.RowKit Go.Great

theorem m_innerC {w : World} {A : Option Addr} {c m : Nat} (p : PK) (hp : p.ok) (hm : m = p.names.length) (hr : RS w A m p.names) :
    Calls Try.prog 27 #[.agg (p.cells (.slice A m c)).toArray] w fun e w' => ∃ v b, e = .returned (.tuple #[v, .bool b]) ∧ Hid (b = decide ((innerP p).isSome = true ∧ normP p = p)) ∧ (∃ A n c bs, v = .slice A n c ∧ Own w' w.heap.size A n c bs ∧ n ≤ 1000000 ∧ ∀ l, innerP p = some l → l = bs) ∧ Grow w w' := by
  subst hm
  refine (m_inner p hp hr).mono ?_
  rintro e w' ⟨⟨A', n, c', bs, rfl, h1, h2, h3⟩, g⟩
  exact ⟨_, _, rfl, Lib.hid rfl, ⟨A', n, c', bs, rfl, h1, h2, h3⟩, g⟩

set_option maxHeartbeats 8000000 in
set_option maxRecDepth 8000 in
theorem m_put {w : World} {A : Option Addr} {c : Nat} (p : PK) (hp : p.ok) (hr : RS w A p.names.length p.names) :
    Calls Try.prog 11 #[.agg (p.cells (.slice A p.names.length c)).toArray] w fun e w' => PutAns w w' e (putP p) ∧ Grow w w' := by
  obtain ⟨m, hm⟩ : ∃ m, m = p.names.length := ⟨_, rfl⟩
  have HP := Lib.hid hp
  have HM := Lib.hid hm
  have HR0 := Lib.hid hr
  rw [← hm] at HR0 ⊢
  clear hm hp hr
  rw [show (p.cells (.slice A m c)).toArray = #[.int .i64 p.kind, .int .i64 p.client, .int .i64 p.epoch, .int .i64 p.seq, .int .i64 p.op, .int .i64 p.at_, .int .i64 p.n, .string p.data, .int .i64 p.old, .int .i64 p.new, .int .i64 p.ckind, .string p.path, .string p.path2, .int .i64 p.flags, .int .i64 p.cfd, .int .i64 p.coff, .int .i64 p.cn, .string p.cdata, .int .i64 p.ino, .int .i64 p.errno, .int .i64 p.rerrno, .int .i64 p.rfd, .string p.rdata, .slice A m c, .int .i64 p.ikind, .int .i64 p.ilinks, .int .i64 p.isize, .int .i64 p.wrote, .int .i64 p.nkind, .int .i64 p.nlinks, .int .i64 p.nsize, .int .i64 p.b0, .int .i64 p.b1, .int .i64 p.b2, .int .i64 p.b3, .int .i64 p.o0, .int .i64 p.o1, .int .i64 p.o2, .int .i64 p.o3, .int .i64 p.o4, .int .i64 p.o5, .int .i64 p.o6, .int .i64 p.o7] from rfl]
  go_enter Try.func11, Try.ntmps11
  go_upto_region 1 with (fail)
  have hb := Blk.new w 35 (p.cells (.slice A m c)) #[.int .i64 p.kind, .int .i64 p.client, .int .i64 p.epoch, .int .i64 p.seq, .int .i64 p.op, .int .i64 p.at_, .int .i64 p.n, .string p.data, .int .i64 p.old, .int .i64 p.new, .int .i64 p.ckind, .string p.path, .string p.path2, .int .i64 p.flags, .int .i64 p.cfd, .int .i64 p.coff, .int .i64 p.cn, .string p.cdata, .int .i64 p.ino, .int .i64 p.errno, .int .i64 p.rerrno, .int .i64 p.rfd, .string p.rdata, .slice A m c, .int .i64 p.ikind, .int .i64 p.ilinks, .int .i64 p.isize, .int .i64 p.wrote, .int .i64 p.nkind, .int .i64 p.nlinks, .int .i64 p.nsize, .int .i64 p.b0, .int .i64 p.b1, .int .i64 p.b2, .int .i64 p.b3, .int .i64 p.o0, .int .i64 p.o1, .int .i64 p.o2, .int .i64 p.o3, .int .i64 p.o4, .int .i64 p.o5, .int .i64 p.o6, .int .i64 p.o7] (0, 0) rfl
  have ga := (Grow.refl w).alloc (.cells #[.int .i64 p.kind, .int .i64 p.client, .int .i64 p.epoch, .int .i64 p.seq, .int .i64 p.op, .int .i64 p.at_, .int .i64 p.n, .string p.data, .int .i64 p.old, .int .i64 p.new, .int .i64 p.ckind, .string p.path, .string p.path2, .int .i64 p.flags, .int .i64 p.cfd, .int .i64 p.coff, .int .i64 p.cn, .string p.cdata, .int .i64 p.ino, .int .i64 p.errno, .int .i64 p.rerrno, .int .i64 p.rfd, .string p.rdata, .slice A m c, .int .i64 p.ikind, .int .i64 p.ilinks, .int .i64 p.isize, .int .i64 p.wrote, .int .i64 p.nkind, .int .i64 p.nlinks, .int .i64 p.nsize, .int .i64 p.b0, .int .i64 p.b1, .int .i64 p.b2, .int .i64 p.b3, .int .i64 p.o0, .int .i64 p.o1, .int .i64 p.o2, .int .i64 p.o3, .int .i64 p.o4, .int .i64 p.o5, .int .i64 p.o6, .int .i64 p.o7] 35)
  obtain ⟨w1, hw1⟩ : ∃ z, z = w.alloc (.cells #[.int .i64 p.kind, .int .i64 p.client, .int .i64 p.epoch, .int .i64 p.seq, .int .i64 p.op, .int .i64 p.at_, .int .i64 p.n, .string p.data, .int .i64 p.old, .int .i64 p.new, .int .i64 p.ckind, .string p.path, .string p.path2, .int .i64 p.flags, .int .i64 p.cfd, .int .i64 p.coff, .int .i64 p.cn, .string p.cdata, .int .i64 p.ino, .int .i64 p.errno, .int .i64 p.rerrno, .int .i64 p.rfd, .string p.rdata, .slice A m c, .int .i64 p.ikind, .int .i64 p.ilinks, .int .i64 p.isize, .int .i64 p.wrote, .int .i64 p.nkind, .int .i64 p.nlinks, .int .i64 p.nsize, .int .i64 p.b0, .int .i64 p.b1, .int .i64 p.b2, .int .i64 p.b3, .int .i64 p.o0, .int .i64 p.o1, .int .i64 p.o2, .int .i64 p.o3, .int .i64 p.o4, .int .i64 p.o5, .int .i64 p.o6, .int .i64 p.o7] 35) := ⟨_, rfl⟩
  obtain ⟨x, hx⟩ : ∃ z, z = w.heap.size := ⟨_, rfl⟩
  rw [← hw1] at hb ga ⊢
  rw [← hx] at hb ⊢
  obtain ⟨P0, hP0⟩ : ∃ z, z = Value.agg #[.int .i64 p.kind, .int .i64 p.client, .int .i64 p.epoch, .int .i64 p.seq, .int .i64 p.op, .int .i64 p.at_, .int .i64 p.n, .string p.data, .int .i64 p.old, .int .i64 p.new, .int .i64 p.ckind, .string p.path, .string p.path2, .int .i64 p.flags, .int .i64 p.cfd, .int .i64 p.coff, .int .i64 p.cn, .string p.cdata, .int .i64 p.ino, .int .i64 p.errno, .int .i64 p.rerrno, .int .i64 p.rfd, .string p.rdata, .slice A m c, .int .i64 p.ikind, .int .i64 p.ilinks, .int .i64 p.isize, .int .i64 p.wrote, .int .i64 p.nkind, .int .i64 p.nlinks, .int .i64 p.nsize, .int .i64 p.b0, .int .i64 p.b1, .int .i64 p.b2, .int .i64 p.b3, .int .i64 p.o0, .int .i64 p.o1, .int .i64 p.o2, .int .i64 p.o3, .int .i64 p.o4, .int .i64 p.o5, .int .i64 p.o6, .int .i64 p.o7] := ⟨_, rfl⟩
  rw [← hP0]
  have BX1 := Lib.hid hb
  have HG1 := Lib.hid ga
  have hcall := m_innerC (c := c) p HP.out HM.out (HR0.out.grow ga)
  have HWX := Lib.hid (show w.heap.size ≤ w1.heap.size from ga.size)
  clear hw1 hb ga hx hP0
  refine wp_region_list ?_
  refine wpList_loadRow rfl 35 (.tmp 1) rfl (some 7) rfl x rfl (p.cells (.slice A m c)) _ BX1.out Try.underlying35 rfl pk_size ?_
  go_simp
  refine wpList_callC rfl (some 8) rfl 27 #[.agg (p.cells (.slice A m c)).toArray] (by first | rfl | go_simp) _ hcall (fun e w' h => by obtain ⟨v, b, h, -⟩ := h; exact ⟨_, h⟩) ?_
  rintro v w2 ⟨v2, b2, he, hb2, ⟨A2, n2, c2, bs2, rfl, ho2, hn2, hl2⟩, g2⟩
  obtain rfl : v = .tuple #[.slice A2 n2 c2, .bool b2] := by injection he
  have HO2 := Lib.hid ho2
  have HL2 := Lib.hid hl2
  have HG2 := Lib.hid (HG1.out.trans g2)
  have HN2 := Lib.hid hn2
  clear he ho2 hl2 g2 hcall hn2
  go_simp
  refine wpList_runTo rfl (some 6) rfl (.tuple #[.slice A2 n2 c2, .bool b2]) w2 (by first | rfl | go_simp) ?_
  refine wpList_runTo rfl (some 9) rfl (.slice A2 n2 c2) w2 (by go_simp) ?_
  refine wpList_runTo rfl (some 10) rfl (.bool b2) w2 (by go_simp) ?_
  go_simp
  cases b2 with
  | false =>
    have HN := Lib.hid (show putP p = none by
      have h := hb2.out.symm
      rw [decide_eq_false_iff_not] at h
      unfold putP
      cases hi : innerP p with
      | none => rfl
      | some l =>
        show (if normP p = p then some (sumB l) else none) = none
        rw [if_neg (fun e => h ⟨by rw [hi]; rfl, e⟩)])
    clear hb2
    go_wp2_with fail
    go_ret2
    rw [HN.out]
    exact ⟨rfl, HG2.out⟩
  | true =>
    have HQ := Lib.hid (show ∃ l, innerP p = some l ∧ normP p = p by
      have h := hb2.out.symm
      rw [decide_eq_true_iff] at h
      obtain ⟨l, hl⟩ := Option.isSome_iff_exists.1 h.1
      exact ⟨l, hl, h.2⟩)
    clear hb2
    go_wp2_with fail
    refine (m_sealed HO2.out.sl HN2.out).mono ?_
    rintro e w3 ⟨A3, c3, rfl, ho3, g3⟩
    have HO3 := Lib.hid ho3
    have HG3 := Lib.hid (HG2.out.trans g3)
    have HW3 := Lib.hid (show w.heap.size ≤ w2.heap.size by have := HG2.out.size; omega)
    clear ho3 g3
    go_wp2_with fail
    go_ret2
    obtain ⟨l, h1, h2⟩ := HQ.out
    rw [putP_some h1 h2]
    have := HL2.out l h1
    subst this
    exact ⟨⟨A3, n2 + 4, c3, rfl, HO3.out.low HW3.out⟩, HG3.out⟩
end Go.Proofs.Ytgjcpchlijpjmaa

namespace Go.Proofs.Ytgjcpchlijpjmaa
open Go.RowKit Go.Great

theorem MR.put {w : World} {g B x n c a : Nat} {A : Option Addr} {bs : List UInt8} {no : Bool} {vs : List Value} (h : MR w g B A n c bs a no) (hx : Row w x vs) (hxg : ¬ x = g) (hB : B ≤ x) (j : Nat) (v : Value) (hj : j < vs.length) :
    MR (w.setCell ⟨x, j, none⟩ v) g B A n c bs a no ∧ Row (w.setCell ⟨x, j, none⟩ v) x (vs.set j v) ∧ Turn (fun k => k = x) w (w.setCell ⟨x, j, none⟩ v) := by
  have t : Turn (fun k => k = x) w (w.setCell ⟨x, j, none⟩ v) := Turn.setCell (F := fun k => k = x) w (p := ⟨x, j, none⟩) rfl _
  exact ⟨h.turn t (fun e => hxg e.symm) (fun k e => by have e' : k = x := e; omega), hx.set hj, t⟩
theorem mrO_some {bs : List UInt8} {a : Nat} {no : Bool} (h : (mrO bs a no).isSome = true) : no = false := by
  cases no with
  | false => rfl
  | true => cases h
theorem mrO_none (bs : List UInt8) (a : Nat) : (mrO bs a true) = none := rfl
theorem rNr_is {o : OBs} {w : Nat} (h : (rNr o w).isSome = true) : o.isSome = true := by
  cases o with
  | none => cases h
  | some b => rfl
theorem rTr_is {o : OBs} {w : Nat} {m : Int} (h : (rTr o w m).isSome = true) : (rNr o w).isSome = true ∧ o.isSome = true := by
  have h1 : (rNr o w).isSome = true := by
    unfold rTr at h
    cases hr : rNr o w with
    | none => rw [hr] at h; cases h
    | some b => rfl
  exact ⟨h1, rNr_is h1⟩
/-- What a body leaves: z is what was to be read, if all was well. -/
def MBody (w w' : World) (g x B : Nat) (A : Option Addr) (n c : Nat) (bs : List UInt8) (z : PK × OBs) : Prop :=
  ∃ (q : PK) (nv : Value) (b : Nat) (no : Bool), MR w' g B A n c bs b no ∧ Row w' x (q.cells nv) ∧ Turn (fun k => k = g ∨ k = x) w w' ∧ OS w' w.heap.size nv q.names ∧ q.ok ∧ mrO bs b no = z.2 ∧ (z.2.isSome = true → q = z.1)
theorem setB_ok {k : Nat} (hk : k < 4) {p : PK} (h : p.ok) {v : Int} (hv : i64B v) : (setB k p v).ok := by
  match k, hk with
  | 0, _ => exact { h with b0 := hv }
  | 1, _ => exact { h with b1 := hv }
  | 2, _ => exact { h with b2 := hv }
  | 3, _ => exact { h with b3 := hv }
theorem setB_names {k : Nat} (p : PK) (v : Int) : (setB k p v).names = p.names := by
  match k with
  | 0 => rfl
  | 1 => rfl
  | 2 => rfl
  | 3 => rfl
  | k + 4 => rfl
/-- The names' way without limits. -/
def stM (o : OBs) : Nat → OBs
  | 0 => o
  | k + 1 => rTr (stM o k) 1 9223372036854775807
def nmM (o : OBs) : Nat → List ByteArray
  | 0 => []
  | k + 1 => nmM o k ++ [rTs (stM o k) 1 9223372036854775807]
theorem namesM_run (o : OBs) (m : Nat) : ∀ k, k ≤ m → (∀ j, j < k → (stM o j).isSome = true) → rNames false m o = (nmM o k ++ (rNames false (m - k) (stM o k)).1, (rNames false (m - k) (stM o k)).2) := by
  intro k
  induction k with
  | zero => intro _ _; rfl
  | succ k ih =>
    intro hk hs
    rw [ih (by omega) (fun j hj => hs j (by omega))]
    obtain ⟨b, hb⟩ := Option.isSome_iff_exists.1 (hs k (by omega))
    obtain ⟨r, hr⟩ : ∃ r, m - k = r + 1 := ⟨m - k - 1, by omega⟩
    have hr2 : m - (k + 1) = r := by omega
    rw [hr, hr2]
    have e : stM o (k + 1) = rTr (some b) 1 (mo false 12) := by show rTr (stM o k) 1 _ = _; rw [hb]; rfl
    have e2 : nmM o (k + 1) = nmM o k ++ [rTs (some b) 1 (mo false 12)] := by show nmM o k ++ [rTs (stM o k) 1 _] = _; rw [hb]; rfl
    rw [e, e2, hb, List.append_assoc]
    rfl
theorem stM_is (o : OBs) (k : Nat) (h : (stM o k).isSome = true) : ∀ j, j < k → (stM o j).isSome = true := by
  induction k with
  | zero => intro j hj; omega
  | succ k ih =>
    have h1 := (rTr_is (o := stM o k) h).2
    intro j hj
    by_cases e : j = k
    · subst e; exact h1
    · exact ih h1 j (by omega)
theorem namesM_end (o : OBs) (m : Nat) (h : (stM o m).isSome = true) : rNames false m o = (nmM o m, stM o m) := by
  rw [namesM_run o m m (Nat.le_refl _) (stM_is o m h), Nat.sub_self]
  show (nmM o m ++ [], stM o m) = _
  rw [List.append_nil]
theorem namesM_none (o : OBs) (m : Nat) : (stM o m = none → (rNames false m o).2 = none) := by
  induction m generalizing o with
  | zero => intro h; exact h
  | succ m ih =>
    intro h
    cases o with
    | none => rfl
    | some b =>
      show (rNames false m (rTr (some b) 1 (mo false 12))).2 = none
      refine ih _ ?_
      have : ∀ k, stM (rTr (some b) 1 (mo false 12)) k = stM (some b) (k + 1) := by
        intro k
        induction k with
        | zero => rfl
        | succ k ihk => show rTr (stM _ k) 1 _ = rTr (stM _ (k + 1)) 1 _; rw [ihk]
      rw [this]
      exact h
def MbInv (w wr : World) (g x B : Nat) (A : Option Addr) (n c : Nat) (bs : List UInt8) (q : PK) (s : OBs) (nv i : Value) : Prop := ∃ (k : Nat) (qk : PK) (b : Nat) (no : Bool), i = .int .i64 (k : Int) ∧ k ≤ 4 ∧ MR wr g B A n c bs b no ∧ Row wr x (qk.cells nv) ∧ Turn (fun k => k = g ∨ k = x) w wr ∧ qk.ok ∧ qk.names = [] ∧ mrO bs b no = stB s k ∧ ((stB s k).isSome = true → qk = pkB q s k)
def MnInv (w wr : World) (g x B : Nat) (A : Option Addr) (n c : Nat) (bs : List UInt8) (q : PK) (o : OBs) (m : Nat) (i : Value) : Prop := ∃ (k : Nat) (nm : List ByteArray) (nv : Value) (b : Nat) (no : Bool), i = .int .i64 (k : Int) ∧ k ≤ m ∧ nm.length = k ∧ (∀ s ∈ nm, s.size ≤ n) ∧ MR wr g B A n c bs b no ∧ Row wr x (({ q with names := nm } : PK).cells nv) ∧ OS wr w.heap.size nv nm ∧ Turn (fun k => k = g ∨ k = x) w wr ∧ mrO bs b no = stM o k ∧ ((stM o k).isSome = true → nm = nmM o k)
theorem names_ok {q : PK} (h : q.ok) {nm : List ByteArray} {k m n : Nat} (h1 : nm.length = k) (h2 : k ≤ m) (h3 : m ≤ 255) (h4 : ∀ s ∈ nm, s.size ≤ n) (h5 : n ≤ 1000) : ({ q with names := nm } : PK).ok :=
  { h with names := ⟨by show nm.length ≤ 300; omega, fun s hs => by have := h4 s hs; omega⟩ }

set_option maxHeartbeats 16000000 in
set_option maxRecDepth 8000 in
theorem m_told {w : World} {g x B n c a : Nat} {A : Option Addr} {bs : List UInt8} {no : Bool} (h : MR w g B A n c bs a no) (q : PK) (hq : q.ok) (hqn : q.names = []) (hx : Row w x (q.cells (.slice none 0 0))) (hxg : ¬ x = g) (hB : B ≤ x) (h1000 : n ≤ 1000) :
    Calls Try.prog 37 #[.pointer (some ⟨g, 0, none⟩), .pointer (some ⟨x, 0, none⟩)] w fun e w' => e = .returned (.tuple #[]) ∧ MBody w w' g x B A n c bs (rRTold false q (mrO bs a no)) := by
  obtain ⟨nv, hnv⟩ : ∃ nv, nv = Value.slice none 0 0 := ⟨_, rfl⟩
  rw [← hnv] at hx
  have HNV := Lib.hid hnv
  have HD0 := Lib.hid h
  have HX0 := Lib.hid hx
  have HQ0 := Lib.hid hq
  have HQN := Lib.hid hqn
  have HT0 := Lib.hid (Turn.refl (fun k => k = g ∨ k = x) w)
  have hlg := h.blk.1.1
  have hlx := hx.1.1
  obtain ⟨s0, hs0⟩ : ∃ s, s = mrO bs a no := ⟨_, rfl⟩
  have HS0 := Lib.hid hs0
  have HM0 := Lib.hid hs0
  clear h hx hs0 hnv hq hqn
  go_enter Try.func37, Try.ntmps37
  go_wp2_with fail
  refine (m_num HD0.out 1 (by decide) 1 rfl).mono ?_
  rintro e v1 ⟨e1, b1, n1, rfl, h2, t2, hr, ho, hv⟩
  obtain ⟨s1, hs⟩ : ∃ z, z = mrO bs b1 n1 := ⟨_, rfl⟩
  have HS1 := Lib.hid (show s1 = rNr s0 1 by rw [hs, ho, HM0.out])
  have HE1 := Lib.hid (show s1.isSome = true → e1 = rN s0 1 from fun hh => by rw [hv (mrO_some (hs ▸ hh)), HM0.out])
  have HK1 := Lib.hid (show i64B e1 from ⟨by omega, hr.2.1⟩)
  have HM1 := Lib.hid hs
  have hxr := HX0.out.turnW t2 hxg
  have c4 := hxr.1.2 4 _ rfl
  have f4 := hxr.2 4 (by simp [PK.cells])
  have k4 := hxr.1.1
  have P := h2.put hxr hxg hB 4 (.int .i64 e1) (by simp [PK.cells])
  have HD1 := Lib.hid P.1
  have HX1 := Lib.hid (show Row (v1.setCell ⟨x, 4, none⟩ (.int .i64 e1)) x (({ q with op := e1 } : PK).cells nv) from P.2.1)
  have HT1 := Lib.hid ((HT0.out.and (t2.mono fun _ e => .inl e)).and (P.2.2.mono fun _ e => .inr e))
  have hg1 : g < v1.heap.size := Nat.lt_of_lt_of_le hlg t2.size
  clear P hxr h2 t2 hr ho hv hs HX0 HD0 HT0
  go_wp2_with fail
  refine (m_num HD1.out 1 (by decide) 1 rfl).mono ?_
  rintro e v2 ⟨e2, b2, n2, rfl, h2, t2, hr, ho, hv⟩
  obtain ⟨s2, hs⟩ : ∃ z, z = mrO bs b2 n2 := ⟨_, rfl⟩
  have HS2 := Lib.hid (show s2 = rNr s1 1 by rw [hs, ho, HM1.out])
  have HE2 := Lib.hid (show s2.isSome = true → e2 = rN s1 1 from fun hh => by rw [hv (mrO_some (hs ▸ hh)), HM1.out])
  have HK2 := Lib.hid (show i64B e2 from ⟨by omega, hr.2.1⟩)
  have HM2 := Lib.hid hs
  have hxr := HX1.out.turnW t2 hxg
  have c19 := hxr.1.2 19 _ rfl
  have f19 := hxr.2 19 (by simp [PK.cells])
  have k19 := hxr.1.1
  have P := h2.put hxr hxg hB 19 (.int .i64 e2) (by simp [PK.cells])
  have HD2 := Lib.hid P.1
  have HX2 := Lib.hid (show Row (v2.setCell ⟨x, 19, none⟩ (.int .i64 e2)) x (({ q with op := e1, errno := e2 } : PK).cells nv) from P.2.1)
  have HT2 := Lib.hid ((HT1.out.and (t2.mono fun _ e => .inl e)).and (P.2.2.mono fun _ e => .inr e))
  have hg2 : g < v2.heap.size := Nat.lt_of_lt_of_le (show g < (v1.setCell ⟨x, 4, none⟩ (.int .i64 e1)).heap.size by simpa using hg1) t2.size
  clear P hxr h2 t2 hr ho hv hs HX1 HD1 HT1
  go_wp2_with fail
  refine (m_num HD2.out 1 (by decide) 1 rfl).mono ?_
  rintro e v3 ⟨e3, b3, n3, rfl, h2, t2, hr, ho, hv⟩
  obtain ⟨s3, hs⟩ : ∃ z, z = mrO bs b3 n3 := ⟨_, rfl⟩
  have HS3 := Lib.hid (show s3 = rNr s2 1 by rw [hs, ho, HM2.out])
  have HE3 := Lib.hid (show s3.isSome = true → e3 = rN s2 1 from fun hh => by rw [hv (mrO_some (hs ▸ hh)), HM2.out])
  have HK3 := Lib.hid (show i64B e3 from ⟨by omega, hr.2.1⟩)
  have HM3 := Lib.hid hs
  have hxr := HX2.out.turnW t2 hxg
  have c18 := hxr.1.2 18 _ rfl
  have f18 := hxr.2 18 (by simp [PK.cells])
  have k18 := hxr.1.1
  have P := h2.put hxr hxg hB 18 (.int .i64 e3) (by simp [PK.cells])
  have HD3 := Lib.hid P.1
  have HX3 := Lib.hid (show Row (v3.setCell ⟨x, 18, none⟩ (.int .i64 e3)) x (({ q with op := e1, errno := e2, ino := e3 } : PK).cells nv) from P.2.1)
  have HT3 := Lib.hid ((HT2.out.and (t2.mono fun _ e => .inl e)).and (P.2.2.mono fun _ e => .inr e))
  have hg3 : g < v3.heap.size := Nat.lt_of_lt_of_le (show g < (v2.setCell ⟨x, 19, none⟩ (.int .i64 e2)).heap.size by simpa using hg2) t2.size
  clear P hxr h2 t2 hr ho hv hs HX2 HD2 HT2
  go_wp2_with fail
  refine (m_num HD3.out 8 (by decide) 8 rfl).mono ?_
  rintro e v4 ⟨e4, b4, n4, rfl, h2, t2, hr, ho, hv⟩
  obtain ⟨s4, hs⟩ : ∃ z, z = mrO bs b4 n4 := ⟨_, rfl⟩
  have HS4 := Lib.hid (show s4 = rNr s3 8 by rw [hs, ho, HM3.out])
  have HE4 := Lib.hid (show s4.isSome = true → e4 = rN s3 8 from fun hh => by rw [hv (mrO_some (hs ▸ hh)), HM3.out])
  have HK4 := Lib.hid (show i64B e4 from ⟨by omega, hr.2.1⟩)
  have HM4 := Lib.hid hs
  have hxr := HX3.out.turnW t2 hxg
  have c27 := hxr.1.2 27 _ rfl
  have f27 := hxr.2 27 (by simp [PK.cells])
  have k27 := hxr.1.1
  have P := h2.put hxr hxg hB 27 (.int .i64 e4) (by simp [PK.cells])
  have HD4 := Lib.hid P.1
  have HX4 := Lib.hid (show Row (v4.setCell ⟨x, 27, none⟩ (.int .i64 e4)) x (({ q with op := e1, errno := e2, ino := e3, wrote := e4 } : PK).cells nv) from P.2.1)
  have HT4 := Lib.hid ((HT3.out.and (t2.mono fun _ e => .inl e)).and (P.2.2.mono fun _ e => .inr e))
  have hg4 : g < v4.heap.size := Nat.lt_of_lt_of_le (show g < (v3.setCell ⟨x, 18, none⟩ (.int .i64 e3)).heap.size by simpa using hg3) t2.size
  clear P hxr h2 t2 hr ho hv hs HX3 HD3 HT3
  go_wp2_with fail
  refine (m_num HD4.out 4 (by decide) 4 rfl).mono ?_
  rintro e v5 ⟨e5, b5, n5, rfl, h2, t2, hr, ho, hv⟩
  obtain ⟨s5, hs⟩ : ∃ z, z = mrO bs b5 n5 := ⟨_, rfl⟩
  have HS5 := Lib.hid (show s5 = rNr s4 4 by rw [hs, ho, HM4.out])
  have HE5 := Lib.hid (show s5.isSome = true → e5 = rN s4 4 from fun hh => by rw [hv (mrO_some (hs ▸ hh)), HM4.out])
  have HK5 := Lib.hid (show i64B e5 from ⟨by omega, hr.2.1⟩)
  have HM5 := Lib.hid hs
  have hxr := HX4.out.turnW t2 hxg
  have c5 := hxr.1.2 5 _ rfl
  have f5 := hxr.2 5 (by simp [PK.cells])
  have k5 := hxr.1.1
  have P := h2.put hxr hxg hB 5 (.int .i64 e5) (by simp [PK.cells])
  have HD5 := Lib.hid P.1
  have HX5 := Lib.hid (show Row (v5.setCell ⟨x, 5, none⟩ (.int .i64 e5)) x (({ q with op := e1, errno := e2, ino := e3, wrote := e4, at_ := e5 } : PK).cells nv) from P.2.1)
  have HT5 := Lib.hid ((HT4.out.and (t2.mono fun _ e => .inl e)).and (P.2.2.mono fun _ e => .inr e))
  have hg5 : g < v5.heap.size := Nat.lt_of_lt_of_le (show g < (v4.setCell ⟨x, 27, none⟩ (.int .i64 e4)).heap.size by simpa using hg4) t2.size
  clear P hxr h2 t2 hr ho hv hs HX4 HD4 HT4
  go_wp2_with fail
  refine (m_num HD5.out 1 (by decide) 1 rfl).mono ?_
  rintro e v6 ⟨e6, b6, n6, rfl, h2, t2, hr, ho, hv⟩
  obtain ⟨s6, hs⟩ : ∃ z, z = mrO bs b6 n6 := ⟨_, rfl⟩
  have HS6 := Lib.hid (show s6 = rNr s5 1 by rw [hs, ho, HM5.out])
  have HE6 := Lib.hid (show s6.isSome = true → e6 = rN s5 1 from fun hh => by rw [hv (mrO_some (hs ▸ hh)), HM5.out])
  have HK6 := Lib.hid (show i64B e6 from ⟨by omega, hr.2.1⟩)
  have HM6 := Lib.hid hs
  have hxr := HX5.out.turnW t2 hxg
  have c24 := hxr.1.2 24 _ rfl
  have f24 := hxr.2 24 (by simp [PK.cells])
  have k24 := hxr.1.1
  have P := h2.put hxr hxg hB 24 (.int .i64 e6) (by simp [PK.cells])
  have HD6 := Lib.hid P.1
  have HX6 := Lib.hid (show Row (v6.setCell ⟨x, 24, none⟩ (.int .i64 e6)) x (({ q with op := e1, errno := e2, ino := e3, wrote := e4, at_ := e5, ikind := e6 } : PK).cells nv) from P.2.1)
  have HT6 := Lib.hid ((HT5.out.and (t2.mono fun _ e => .inl e)).and (P.2.2.mono fun _ e => .inr e))
  have hg6 : g < v6.heap.size := Nat.lt_of_lt_of_le (show g < (v5.setCell ⟨x, 5, none⟩ (.int .i64 e5)).heap.size by simpa using hg5) t2.size
  clear P hxr h2 t2 hr ho hv hs HX5 HD5 HT5
  go_wp2_with fail
  refine (m_num HD6.out 1 (by decide) 1 rfl).mono ?_
  rintro e v7 ⟨e7, b7, n7, rfl, h2, t2, hr, ho, hv⟩
  obtain ⟨s7, hs⟩ : ∃ z, z = mrO bs b7 n7 := ⟨_, rfl⟩
  have HS7 := Lib.hid (show s7 = rNr s6 1 by rw [hs, ho, HM6.out])
  have HE7 := Lib.hid (show s7.isSome = true → e7 = rN s6 1 from fun hh => by rw [hv (mrO_some (hs ▸ hh)), HM6.out])
  have HK7 := Lib.hid (show i64B e7 from ⟨by omega, hr.2.1⟩)
  have HM7 := Lib.hid hs
  have hxr := HX6.out.turnW t2 hxg
  have c25 := hxr.1.2 25 _ rfl
  have f25 := hxr.2 25 (by simp [PK.cells])
  have k25 := hxr.1.1
  have P := h2.put hxr hxg hB 25 (.int .i64 e7) (by simp [PK.cells])
  have HD7 := Lib.hid P.1
  have HX7 := Lib.hid (show Row (v7.setCell ⟨x, 25, none⟩ (.int .i64 e7)) x (({ q with op := e1, errno := e2, ino := e3, wrote := e4, at_ := e5, ikind := e6, ilinks := e7 } : PK).cells nv) from P.2.1)
  have HT7 := Lib.hid ((HT6.out.and (t2.mono fun _ e => .inl e)).and (P.2.2.mono fun _ e => .inr e))
  have hg7 : g < v7.heap.size := Nat.lt_of_lt_of_le (show g < (v6.setCell ⟨x, 24, none⟩ (.int .i64 e6)).heap.size by simpa using hg6) t2.size
  clear P hxr h2 t2 hr ho hv hs HX6 HD6 HT6
  go_wp2_with fail
  refine (m_num HD7.out 2 (by decide) 2 rfl).mono ?_
  rintro e v8 ⟨e8, b8, n8, rfl, h2, t2, hr, ho, hv⟩
  obtain ⟨s8, hs⟩ : ∃ z, z = mrO bs b8 n8 := ⟨_, rfl⟩
  have HS8 := Lib.hid (show s8 = rNr s7 2 by rw [hs, ho, HM7.out])
  have HE8 := Lib.hid (show s8.isSome = true → e8 = rN s7 2 from fun hh => by rw [hv (mrO_some (hs ▸ hh)), HM7.out])
  have HK8 := Lib.hid (show i64B e8 from ⟨by omega, hr.2.1⟩)
  have HM8 := Lib.hid hs
  have hxr := HX7.out.turnW t2 hxg
  have c26 := hxr.1.2 26 _ rfl
  have f26 := hxr.2 26 (by simp [PK.cells])
  have k26 := hxr.1.1
  have P := h2.put hxr hxg hB 26 (.int .i64 e8) (by simp [PK.cells])
  have HD8 := Lib.hid P.1
  have HX8 := Lib.hid (show Row (v8.setCell ⟨x, 26, none⟩ (.int .i64 e8)) x (({ q with op := e1, errno := e2, ino := e3, wrote := e4, at_ := e5, ikind := e6, ilinks := e7, isize := e8 } : PK).cells nv) from P.2.1)
  have HT8 := Lib.hid ((HT7.out.and (t2.mono fun _ e => .inl e)).and (P.2.2.mono fun _ e => .inr e))
  have hg8 : g < v8.heap.size := Nat.lt_of_lt_of_le (show g < (v7.setCell ⟨x, 25, none⟩ (.int .i64 e7)).heap.size by simpa using hg7) t2.size
  clear P hxr h2 t2 hr ho hv hs HX7 HD7 HT7
  go_wp2_with fail
  refine (m_num HD8.out 1 (by decide) 1 rfl).mono ?_
  rintro e v9 ⟨e9, b9, n9, rfl, h2, t2, hr, ho, hv⟩
  obtain ⟨s9, hs⟩ : ∃ z, z = mrO bs b9 n9 := ⟨_, rfl⟩
  have HS9 := Lib.hid (show s9 = rNr s8 1 by rw [hs, ho, HM8.out])
  have HE9 := Lib.hid (show s9.isSome = true → e9 = rN s8 1 from fun hh => by rw [hv (mrO_some (hs ▸ hh)), HM8.out])
  have HK9 := Lib.hid (show i64B e9 from ⟨by omega, hr.2.1⟩)
  have HM9 := Lib.hid hs
  have hxr := HX8.out.turnW t2 hxg
  have c28 := hxr.1.2 28 _ rfl
  have f28 := hxr.2 28 (by simp [PK.cells])
  have k28 := hxr.1.1
  have P := h2.put hxr hxg hB 28 (.int .i64 e9) (by simp [PK.cells])
  have HD9 := Lib.hid P.1
  have HX9 := Lib.hid (show Row (v9.setCell ⟨x, 28, none⟩ (.int .i64 e9)) x (({ q with op := e1, errno := e2, ino := e3, wrote := e4, at_ := e5, ikind := e6, ilinks := e7, isize := e8, nkind := e9 } : PK).cells nv) from P.2.1)
  have HT9 := Lib.hid ((HT8.out.and (t2.mono fun _ e => .inl e)).and (P.2.2.mono fun _ e => .inr e))
  have hg9 : g < v9.heap.size := Nat.lt_of_lt_of_le (show g < (v8.setCell ⟨x, 26, none⟩ (.int .i64 e8)).heap.size by simpa using hg8) t2.size
  clear P hxr h2 t2 hr ho hv hs HX8 HD8 HT8
  go_wp2_with fail
  refine (m_num HD9.out 1 (by decide) 1 rfl).mono ?_
  rintro e v10 ⟨e10, b10, n10, rfl, h2, t2, hr, ho, hv⟩
  obtain ⟨s10, hs⟩ : ∃ z, z = mrO bs b10 n10 := ⟨_, rfl⟩
  have HS10 := Lib.hid (show s10 = rNr s9 1 by rw [hs, ho, HM9.out])
  have HE10 := Lib.hid (show s10.isSome = true → e10 = rN s9 1 from fun hh => by rw [hv (mrO_some (hs ▸ hh)), HM9.out])
  have HK10 := Lib.hid (show i64B e10 from ⟨by omega, hr.2.1⟩)
  have HM10 := Lib.hid hs
  have hxr := HX9.out.turnW t2 hxg
  have c29 := hxr.1.2 29 _ rfl
  have f29 := hxr.2 29 (by simp [PK.cells])
  have k29 := hxr.1.1
  have P := h2.put hxr hxg hB 29 (.int .i64 e10) (by simp [PK.cells])
  have HD10 := Lib.hid P.1
  have HX10 := Lib.hid (show Row (v10.setCell ⟨x, 29, none⟩ (.int .i64 e10)) x (({ q with op := e1, errno := e2, ino := e3, wrote := e4, at_ := e5, ikind := e6, ilinks := e7, isize := e8, nkind := e9, nlinks := e10 } : PK).cells nv) from P.2.1)
  have HT10 := Lib.hid ((HT9.out.and (t2.mono fun _ e => .inl e)).and (P.2.2.mono fun _ e => .inr e))
  have hg10 : g < v10.heap.size := Nat.lt_of_lt_of_le (show g < (v9.setCell ⟨x, 28, none⟩ (.int .i64 e9)).heap.size by simpa using hg9) t2.size
  clear P hxr h2 t2 hr ho hv hs HX9 HD9 HT9
  go_wp2_with fail
  refine (m_num HD10.out 2 (by decide) 2 rfl).mono ?_
  rintro e v11 ⟨e11, b11, n11, rfl, h2, t2, hr, ho, hv⟩
  obtain ⟨s11, hs⟩ : ∃ z, z = mrO bs b11 n11 := ⟨_, rfl⟩
  have HS11 := Lib.hid (show s11 = rNr s10 2 by rw [hs, ho, HM10.out])
  have HE11 := Lib.hid (show s11.isSome = true → e11 = rN s10 2 from fun hh => by rw [hv (mrO_some (hs ▸ hh)), HM10.out])
  have HK11 := Lib.hid (show i64B e11 from ⟨by omega, hr.2.1⟩)
  have HM11 := Lib.hid hs
  have hxr := HX10.out.turnW t2 hxg
  have c30 := hxr.1.2 30 _ rfl
  have f30 := hxr.2 30 (by simp [PK.cells])
  have k30 := hxr.1.1
  have P := h2.put hxr hxg hB 30 (.int .i64 e11) (by simp [PK.cells])
  have HD11 := Lib.hid P.1
  have HX11 := Lib.hid (show Row (v11.setCell ⟨x, 30, none⟩ (.int .i64 e11)) x (({ q with op := e1, errno := e2, ino := e3, wrote := e4, at_ := e5, ikind := e6, ilinks := e7, isize := e8, nkind := e9, nlinks := e10, nsize := e11 } : PK).cells nv) from P.2.1)
  have HT11 := Lib.hid ((HT10.out.and (t2.mono fun _ e => .inl e)).and (P.2.2.mono fun _ e => .inr e))
  have hg11 : g < v11.heap.size := Nat.lt_of_lt_of_le (show g < (v10.setCell ⟨x, 29, none⟩ (.int .i64 e10)).heap.size by simpa using hg10) t2.size
  clear P hxr h2 t2 hr ho hv hs HX10 HD10 HT10
  obtain ⟨q11, hq11⟩ : ∃ z : PK, z = { q with op := e1, errno := e2, ino := e3, wrote := e4, at_ := e5, ikind := e6, ilinks := e7, isize := e8, nkind := e9, nlinks := e10, nsize := e11 } := ⟨_, rfl⟩
  rw [← hq11] at HX11
  have HQ11 := Lib.hid hq11
  have HOK11 := Lib.hid (show q11.ok by rw [hq11]; exact { HQ0.out with op := HK1.out, errno := HK2.out, ino := HK3.out, wrote := HK4.out, at_ := HK5.out, ikind := HK6.out, ilinks := HK7.out, isize := HK8.out, nkind := HK9.out, nlinks := HK10.out, nsize := HK11.out })
  have HQN11 := Lib.hid (show q11.names = [] by rw [hq11]; exact HQN.out)
  clear hq11
  go_wp2_with fail
  obtain ⟨wz, hwz⟩ : ∃ z, z = v11.setCell ⟨x, 30, none⟩ (.int .i64 e11) := ⟨_, rfl⟩
  rw [← hwz] at HD11 HX11 HT11 ⊢
  clear hwz
  go_loopw [4] (fun i wr => MbInv w wr g x B A n c bs q11 s11 nv i) (fun i _ => 4 - (intOf i).toNat)
  case atStart => exact ⟨0, q11, _, _, rfl, by decide, HD11.out, HX11.out, HT11.out, HOK11.out, HQN11.out, HM11.out.symm, fun _ => rfl⟩
  case round =>
    obtain ⟨k, qk, bk, nk, rfl, hk, hd, hxk, ht, hok, hqn, hmo, hpk⟩ := hrel
    have HOKK := Lib.hid hok
    have HQNK := Lib.hid hqn
    have HMK := Lib.hid hmo
    have HPK := Lib.hid hpk
    clear hok hqn hmo hpk
    by_cases hlt : k < 4
    · have HDK := Lib.hid hd
      have HXK := Lib.hid hxk
      have HTK := Lib.hid ht
      have hk31 : 31 + k < (qk.cells nv).length := by show 31 + k < 43; omega
      clear hd hxk ht
      have z4 : decide ((k : Int) < 4) = true := decide_eq_true (by omega)
      go_wp2_with fail
      have hTr : True := trivial
      refine wp_region_held_drew (S := fun _ => True) (by kernel_rfl) trivial (fun hHeld => ?_)
      refine wpAnyH_take (i := 0) (oi := _) (v := ?_) rfl (by kernel_rfl) (by kernel_rfl) (by kernel_rfl) (fun _ _ _ h => h) (Or.inl ⟨by rfl, ?_⟩) (by assumption) ?_
      rotate_left
      · (intro w hSw; (try dsimp only at hSw); go_simp; (try with_reducible rfl))
      simp only [Act.put, List.setIfInBounds_toArray]
      refine wpAnyH_take (i := 1) (oi := _) (v := ?_) rfl (by kernel_rfl) (by kernel_rfl) (by kernel_rfl) (fun _ _ _ h => h) (Or.inl ⟨by rfl, ?_⟩) (by assumption) ?_
      rotate_left
      · (intro w hSw; (try dsimp only at hSw); go_simp; (try with_reducible rfl))
      simp only [Act.put]
      refine wpAnyH_take (i := 2) (oi := _) (v := ?_) rfl (by kernel_rfl) (by kernel_rfl) (by kernel_rfl) (fun _ _ _ h => h) (Or.inl ⟨by rfl, ?_⟩) (by assumption) ?_
      rotate_left
      · (intro w hSw; (try dsimp only at hSw); go_simp; (try with_reducible rfl))
      simp only [Act.put]
      refine wpAnyH_take (i := 4) (oi := _) (v := ?_) rfl (by kernel_rfl) (by kernel_rfl) (by kernel_rfl) (fun _ _ _ h => h) (Or.inl ⟨by rfl, ?_⟩) (by assumption) ?_
      rotate_left
      · (intro w hSw; (try dsimp only at hSw); go_simp; (try with_reducible rfl))
      simp only [Act.put]
      refine wpAnyH_take (i := 5) (oi := _) (v := ?_) rfl (by kernel_rfl) (by kernel_rfl) (by kernel_rfl) (fun _ _ _ h => h) (Or.inl ⟨by rfl, ?_⟩) (by assumption) ?_
      rotate_left
      · (intro w hSw; (try dsimp only at hSw); go_simp; (try with_reducible rfl))
      simp only [Act.put]
      refine wpAnyH_take (i := 6) (oi := _) (v := ?_) rfl (by kernel_rfl) (by kernel_rfl) (by kernel_rfl) (fun _ _ _ h => h) (Or.inl ⟨by rfl, ?_⟩) (by assumption) ?_
      rotate_left
      · (intro w hSw; (try dsimp only at hSw); go_simp; (try with_reducible rfl))
      simp only [Act.put]
      refine wpAnyH_ready (rs := [3]) (by kernel_rfl) (by simp) ?_
      refine AllReadyH.cons (o := _) rfl (fun K hK => ?_) AllReadyH.nil
      go_simp
      refine (m_num (HDK.out.keep ?_) 1 (by decide) 1 rfl).mono ?_; (repeat (first | exact Grow.refl _ | refine Grow.drew ?_ | refine Grow.drewN ?_ _)); rintro e w5 ⟨ev, b5, n5, rfl, h5, t5, hr5, ho5, hv5⟩; have HR5 := Lib.hid (show i64B ev from ⟨by omega, hr5.2.1⟩); have HO5 := Lib.hid ho5; have HV5 := Lib.hid hv5; clear hr5 ho5 hv5
      refine hK.out _ _ trivial (fun hHeld2 => ?_)
      clear hK K
      refine wpAnyH_take (i := 7) (oi := _) (v := .pointer (some ⟨x, 31 + k, none⟩)) rfl (by kernel_rfl) (by kernel_rfl) (by kernel_rfl) (fun _ _ _ h => h) (Or.inl ⟨by rfl, ?_⟩) (by assumption) ?_
      · (intro w hSw; (try dsimp only at hSw); go_simp; first | done | (intro hh; exfalso; omega))
      simp only [Act.put]
      have hxr := (HXK.out.keep (show Grow wr _ from Grow.drew (Grow.refl _))).turnW t5 hxg
      have hu := hxr.1.2 (31 + k) _ (List.getElem?_eq_getElem hk31)
      have hf := hxr.2 (31 + k) hk31
      have hl := hxr.1.1
      have P := h5.put hxr hxg hB (31 + k) (.int .i64 ev) hk31
      rw [setB_cells hlt] at P
      have HPP := Lib.hid P
      clear P
      refine wpAnyH_ready (rs := [8]) (by kernel_rfl) (by simp) ?_
      refine AllReadyH.cons (o := _) rfl (fun K hK => ?_) AllReadyH.nil
      go_simp
      refine hK.out _ _ trivial (fun hHeld5 => ?_)
      clear hK K
      refine wpAnyH_done (by kernel_rfl) ?_ _
      have X : MbInv w (w5.setCell ⟨x, 31 + k, none⟩ (.int .i64 ev)) g x B A n c bs q11 s11 nv (.int .i64 ((k : Int) + 1)) := ⟨k + 1, setB k qk ev, b5, n5, by simp, hlt, HPP.out.1, HPP.out.2.1, (HTK.out.and (((Turn.grow (show Grow wr _ from Grow.drew (Grow.refl _)) _).and t5).mono fun _ e => .inl e)).and (HPP.out.2.2.mono fun _ e => .inr e), setB_ok hlt HOKK.out HR5.out, by rw [setB_names]; exact HQNK.out, by rw [HO5.out, HMK.out]; rfl, fun hh => by
        have h1 : (stB s11 k).isSome = true := rNr_is (o := stB s11 k) hh
        have h2 : n5 = false := mrO_some (bs := bs) (a := b5) (by rw [HO5.out, HMK.out]; exact hh)
        rw [HV5.out h2, HMK.out, HPK.out h1]; rfl⟩
      have HX := Lib.hid X
      clear X h5 t5 hxr hu hf hl
      go_wp2_with fail
      go_roundw
      have e5 : wrap64 ((k : Int) + 1) = (k : Int) + 1 := IntWalk.wrap64_in _ (by omega)
      case rel => (try rw [e5]); first | exact HX.out | ((repeat apply Exists.intro); exact HX.out) | ((repeat apply Exists.intro); refine ⟨HX.out, ?_⟩; rfl)
      case measure => (have e5 : wrap64 ((k : Int) + 1) = (k : Int) + 1 := IntWalk.wrap64_in _ (by omega)); first | exact measV hlt | (rw [e5]; exact measV hlt)
    · obtain rfl : k = 4 := by omega
      have HD12 := Lib.hid hd
      have HX12 := Lib.hid hxk
      have HT12 := Lib.hid ht
      obtain ⟨s15, hs15⟩ : ∃ s, s = stB s11 4 := ⟨_, rfl⟩
      have HS15 := Lib.hid hs15
      rw [← hs15] at HMK HPK
      clear hd hxk ht hs15
      go_wp2_with fail
      refine (m_num HD12.out 1 (by decide) 1 rfl).mono ?_
      rintro e w6 ⟨ev, b6, n6, rfl, h6, t6, hr6, ho6, hv6⟩
      obtain ⟨m, rfl⟩ : ∃ m : Nat, ev = (m : Int) := ⟨ev.toNat, by omega⟩
      have hm255 : m ≤ 255 := by have := hr6.2.2 rfl; omega
      have HD6 := Lib.hid h6
      have HX6 := Lib.hid (HX12.out.turnW t6 hxg)
      have HT6 := Lib.hid (HT12.out.and (t6.mono fun _ e => .inl e))
      obtain ⟨s16, hs16⟩ : ∃ z, z = rNr s15 1 := ⟨_, rfl⟩
      have HM6 := Lib.hid (show mrO bs b6 n6 = s16 by rw [ho6, HMK.out, hs16])
      have HV6 := Lib.hid (show s16.isSome = true → (m : Int) = rN s15 1 from fun hh => by rw [hv6 (mrO_some (bs := bs) (a := b6) (by rw [HM6.out]; exact hh)), HMK.out])
      have HS16 := Lib.hid hs16
      clear h6 t6 HD12 HX12 HT12 hr6 ho6 hv6 hs16
      have HNIL := Lib.hid (show ({ qk with names := [] } : PK) = qk by rw [← HQNK.out])
      have HZ := Lib.hid (show (rRTold false q s0).2 = (rNames false (rN s15 1).toNat s16).2 ∧ ((stM s16 m).isSome = true → rRTold false q s0 = ({ qk with names := nmM s16 m }, stM s16 m)) by
        have h15 : rNr (rNr (rNr (rNr s11 1) 1) 1) 1 = s15 := HS15.out.symm
        have hE : (rRTold false q s0).2 = (rNames false (rN s15 1).toNat s16).2 := by
          unfold rRTold
          simp only
          rw [← HS1.out, ← HS2.out, ← HS3.out, ← HS4.out, ← HS5.out, ← HS6.out, ← HS7.out, ← HS8.out, ← HS9.out, ← HS10.out, ← HS11.out, h15, ← HS16.out]
          rfl
        refine ⟨hE, fun hh => ?_⟩
        have i16 : s16.isSome = true := by
          cases m with
          | zero => exact hh
          | succ k => exact stM_is s16 (k + 1) hh 0 (by omega)
        have i15 : s15.isSome = true := rNr_is (by rw [← HS16.out]; exact i16)
        have i14 : (rNr (rNr (rNr s11 1) 1) 1).isSome = true := rNr_is (by rw [h15]; exact i15)
        have i11 : s11.isSome = true := rNr_is (rNr_is (rNr_is i14))
        have i10 : s10.isSome = true := rNr_is (by rw [← HS11.out]; exact i11)
        have i9 : s9.isSome = true := rNr_is (by rw [← HS10.out]; exact i10)
        have i8 : s8.isSome = true := rNr_is (by rw [← HS9.out]; exact i9)
        have i7 : s7.isSome = true := rNr_is (by rw [← HS8.out]; exact i8)
        have i6 : s6.isSome = true := rNr_is (by rw [← HS7.out]; exact i7)
        have i5 : s5.isSome = true := rNr_is (by rw [← HS6.out]; exact i6)
        have i4 : s4.isSome = true := rNr_is (by rw [← HS5.out]; exact i5)
        have i3 : s3.isSome = true := rNr_is (by rw [← HS4.out]; exact i4)
        have i2 : s2.isSome = true := rNr_is (by rw [← HS3.out]; exact i3)
        have i1 : s1.isSome = true := rNr_is (by rw [← HS2.out]; exact i2)
        have hm : (rN s15 1).toNat = m := by rw [← HV6.out i16]; rfl
        have hz := namesM_end s16 m hh
        rw [HPK.out i15, HQ11.out, HE1.out i1, HE2.out i2, HE3.out i3, HE4.out i4, HE5.out i5, HE6.out i6, HE7.out i7, HE8.out i8, HE9.out i9, HE10.out i10, HE11.out i11]
        unfold rRTold
        simp only
        rw [← HS1.out, ← HS2.out, ← HS3.out, ← HS4.out, ← HS5.out, ← HS6.out, ← HS7.out, ← HS8.out, ← HS9.out, ← HS10.out, ← HS11.out, h15, ← HS16.out]
        rw [show gd (!false || decide (rN s15 1 ≤ 16)) s16 = s16 from rfl, hm, hz]
        rfl)
      go_wp2_with fail
      go_loopw [6] (fun i wr => MnInv w wr g x B A n c bs qk s16 m i) (fun i _ => 256 - (intOf i).toNat)
      case atStart =>
        have hA1 : Row w6 x (({ qk with names := [] } : PK).cells nv) := by rw [HNIL.out]; exact HX6.out
        have hA2 : OS w6 w.heap.size nv [] := by rw [HNV.out]; exact World.ownsRow_nil _ _ _ _
        exact ⟨0, [], nv, b6, n6, rfl, Nat.zero_le _, rfl, (fun s hs => absurd hs List.not_mem_nil), HD6.out, hA1, hA2, HT6.out, HM6.out, fun _ => rfl⟩
      case round =>
        obtain ⟨k, nm, nvk, bk, nk, rfl, hk, hnl, hnz, hd, hxk, hos, ht, hmo, hnm⟩ := hrel
        have HDK := Lib.hid hd
        have HXK := Lib.hid hxk
        have HOK := Lib.hid hos
        have HTK := Lib.hid ht
        have HLN := Lib.hid hnl
        have HNZ := Lib.hid hnz
        have HMO := Lib.hid hmo
        have HNM := Lib.hid hnm
        have d2 := hd.blk.1.2 2 _ rfl
        have hlgk := hd.blk.1.1
        have c23 := hxk.1.2 23 _ rfl
        clear hd hxk hos ht hnl hnz hmo hnm
        have HFIN : (k = m ∨ nk = true) → Hid (MBody w wr g x B A n c bs (rRTold false q s0)) := by
          intro hend
          refine Lib.hid ⟨{ qk with names := nm }, nvk, bk, nk, HDK.out, HXK.out, HTK.out, HOK.out, names_ok HOKK.out HLN.out hk hm255 HNZ.out h1000, ?_, ?_⟩
          · cases hs : (stM s16 m).isSome with
            | true =>
              rw [(HZ.out.2 hs)]
              rcases hend with rfl | hn
              · exact HMO.out
              · have : (stM s16 k).isSome = true := by
                  by_cases e : k = m
                  · rw [e]; exact hs
                  · exact stM_is s16 m hs k (by omega)
                rw [← HMO.out] at this
                rw [mrO_some this] at hn
                cases hn
            | false =>
              have hsn : stM s16 m = none := by
                cases h : stM s16 m with
                | none => rfl
                | some y => rw [h] at hs; cases hs
              have hmn : mrO bs bk nk = none := by
                rcases hend with rfl | hn
                · rw [HMO.out, hsn]
                · rw [hn]; rfl
              rw [hmn, HZ.out.1]
              cases hi : s16 with
              | none =>
                cases (rN s15 1).toNat <;> rfl
              | some y =>
                have hm : (rN s15 1).toNat = m := by rw [← HV6.out (by rw [hi]; rfl)]; rfl
                rw [hm, ← hi]
                exact (namesM_none s16 m hsn).symm
          · intro hh
            cases hs : (stM s16 m).isSome with
            | true =>
              rw [HZ.out.2 hs]
              have hkm : k = m := by
                rcases hend with h | hn
                · exact h
                · have : (stM s16 k).isSome = true := by
                    by_cases e : k = m
                    · rw [e]; exact hs
                    · exact stM_is s16 m hs k (by omega)
                  rw [← HMO.out] at this
                  rw [mrO_some this] at hn
                  cases hn
              subst hkm
              show ({ qk with names := nm } : PK) = { qk with names := nmM s16 k }
              rw [HNM.out hs]
            | false =>
              exfalso
              have hsn : stM s16 m = none := by
                cases h : stM s16 m with
                | none => rfl
                | some y => rw [h] at hs; cases hs
              rw [HZ.out.1] at hh
              cases hi : s16 with
              | none =>
                rw [hi] at hh
                cases hx : (rN s15 1).toNat with
                | zero => rw [hx] at hh; cases hh
                | succ z => rw [hx] at hh; cases hh
              | some y =>
                have hm : (rN s15 1).toNat = m := by rw [← HV6.out (by rw [hi]; rfl)]; rfl
                rw [hm, namesM_none s16 m hsn] at hh
                cases hh
        by_cases hlt : k < m
        · have z4 : decide ((k : Int) < (m : Int)) = true := decide_eq_true (by omega)
          have z5 : decide (k < m) = true := decide_eq_true hlt
          cases nk with
          | true =>
            have HF := HFIN (.inr rfl)
            clear HFIN
            go_wp2_with fail
            go_end0
            rw [← HS0.out]
            exact ⟨rfl, HF.out⟩
          | false =>
            clear HFIN
            have hk17 : k < 256 := by omega
            have hzk := HTK.out.size
            go_wp2_with fail
            refine wp_region_held_drew (S := fun _ => True) (by kernel_rfl) trivial (fun hHeld => ?_)
            refine wpAnyH_take (i := 0) (oi := _) (v := ?_) rfl (by kernel_rfl) (by kernel_rfl) (by kernel_rfl) (fun _ _ _ h => h) (Or.inl ⟨by rfl, ?_⟩) (by assumption) ?_
            rotate_left
            · (intro w hSw; (try dsimp only at hSw); go_simp; (try with_reducible rfl))
            simp only [Act.put, List.setIfInBounds_toArray]
            refine wpAnyH_take (i := 1) (oi := _) (v := ?_) rfl (by kernel_rfl) (by kernel_rfl) (by kernel_rfl) (fun _ _ _ h => h) (Or.inl ⟨by rfl, ?_⟩) (by assumption) ?_
            rotate_left
            · (intro w hSw; (try dsimp only at hSw); go_simp; (try with_reducible rfl))
            simp only [Act.put]
            refine wpAnyH_take (i := 2) (oi := _) (v := ?_) rfl (by kernel_rfl) (by kernel_rfl) (by kernel_rfl) (fun _ _ _ h => h) (Or.inl ⟨by rfl, ?_⟩) (by assumption) ?_
            rotate_left
            · (intro w hSw; (try dsimp only at hSw); go_simp; (try with_reducible rfl))
            simp only [Act.put]
            refine wpAnyH_take (i := 3) (oi := _) (v := ?_) rfl (by kernel_rfl) (by kernel_rfl) (by kernel_rfl) (fun _ _ _ h => h) (Or.inl ⟨by rfl, ?_⟩) (by assumption) ?_
            rotate_left
            · (intro w hSw; (try dsimp only at hSw); go_simp; (try with_reducible rfl))
            simp only [Act.put]
            refine wpAnyH_take (i := 4) (oi := _) (v := ?_) rfl (by kernel_rfl) (by kernel_rfl) (by kernel_rfl) (fun _ _ _ h => h) (Or.inl ⟨by rfl, ?_⟩) (by assumption) ?_
            rotate_left
            · (intro w hSw; (try dsimp only at hSw); go_simp; (try with_reducible rfl))
            simp only [Act.put]
            refine wpAnyH_take (i := 6) (oi := _) (v := ?_) rfl (by kernel_rfl) (by kernel_rfl) (by kernel_rfl) (fun _ _ _ h => h) (Or.inl ⟨by rfl, ?_⟩) (by assumption) ?_
            rotate_left
            · (intro w hSw; (try dsimp only at hSw); go_simp; (try with_reducible rfl))
            simp only [Act.put]
            refine wpAnyH_ready (rs := [5, 7]) (by kernel_rfl) (by simp) ?_
            refine AllReadyH.cons (o := _) rfl (fun K hK => ?_) (AllReadyH.cons (o := _) rfl (fun K hK => ?_) AllReadyH.nil)
            · go_simp
              refine hK.out _ _ trivial (fun hHeld6 => ?_)
              clear hK K
              refine wpAnyH_ready (rs := [7]) (by kernel_rfl) (by simp) ?_
              refine AllReadyH.cons (o := _) rfl (fun K hK => ?_) AllReadyH.nil
              go_simp
              refine (m_text (HDK.out.keep ?_) 1 (by decide) 1 rfl).mono ?_; (repeat (first | exact Grow.refl _ | refine Grow.drew ?_ | refine Grow.drewN ?_ _ | refine Grow.alloc ?_ _)); rintro e w5 ⟨sv, b5, n5, rfl, h5, t5, hsz5, ho5, hv5⟩; have HZ9 := Lib.hid hsz5; have HO9 := Lib.hid ho5; have HV9 := Lib.hid hv5; clear hsz5 ho5 hv5
              have t5' : Turn (fun k => k = g) wr w5 := (Turn.grow (show Grow wr _ by (repeat (first | exact Grow.refl _ | refine Grow.drew ?_ | refine Grow.drewN ?_ _ | refine Grow.alloc ?_ _))) _).and t5
              have HT5 := Lib.hid t5'
              have HD5 := Lib.hid h5
              have HX5 := Lib.hid (HXK.out.turnW t5' hxg)
              have HOB := Lib.hid (show ∀ i, nvk.ownBlock = some i → w.heap.size ≤ i from fun i e => (World.ownsRow.lt HOK.out i e).1)
              have HO5 := Lib.hid (show OS w5 w.heap.size nvk nm from row_turnW HOK.out t5' fun i e q => by have := HOB.out i e; have q' : i = g := q; omega)
              have HOX := Lib.hid (show (¬ nvk.ownBlock = some x) ∧ (¬ nvk.ownBlock = some g) ∧ (∀ i, nvk.ownBlock = some i → B ≤ i) from ⟨fun e => by have := HOB.out x e; omega, fun e => by have := HOB.out g e; omega, fun i e => by have := HOB.out i e; omega⟩)
              have HOX2 := HOB
              have HZ5 := Lib.hid (show w.heap.size ≤ w5.heap.size by have := t5'.size; omega)
              have c5 := HX5.out.1.2 23 _ rfl
              have c6 := ((Grow.refl w5).alloc (.cells #[.string (sv)] 9)).cell c5
              clear h5 t5 t5'
              refine hK.out _ _ trivial (fun hHeld5 => ?_)
              clear hK K
              refine wpAnyH_ready (rs := [8]) (by kernel_rfl) (by simp) ?_
              refine AllReadyH.cons (o := _) rfl (fun K hK => ?_) AllReadyH.nil
              go_simp
              refine hK.out _ _ trivial (fun hHeld6 => ?_)
              clear hK K
              refine wpAnyH_ready (rs := [9]) (by kernel_rfl) (by simp) ?_
              refine AllReadyH.cons (o := _) rfl (fun K hK => ?_) AllReadyH.nil
              refine step_appS rfl (.tmp 102) (.tmp 105) rfl w.heap.size nvk nm (by first | rfl | simp) (sv) _ (some ⟨w5.heap.size, 0, none⟩) (by first | rfl | simp) (Rd.litS (w := w5) _ (by (repeat (first | exact Grow.refl _ | refine Grow.drew ?_ | refine Grow.drewN ?_ _ | refine Grow.alloc ?_ _)))) (HO5.out.keep (by (repeat (first | exact Grow.refl _ | refine Grow.drew ?_ | refine Grow.drewN ?_ _ | refine Grow.alloc ?_ _)))) (by rw [HLN.out]; omega) (by have := HZ5.out; first | omega | (simp; omega)) ?_
              intro v8 w8 q1 q2 q3
              obtain ⟨A8, c8, e8, -⟩ := own_form q1
              rw [List.length_append, HLN.out] at e8
              replace e8 : v8 = .slice A8 (k + 1) c8 := e8
              subst e8
              have T8 : Turn (fun i => nvk.ownBlock = some i) w5 w8 := (Turn.grow (show Grow w5 _ by (repeat (first | exact Grow.refl _ | refine Grow.drew ?_ | refine Grow.drewN ?_ _ | refine Grow.alloc ?_ _))) _).and (Turn.grown q2 (fun _ h => h))
              have hx8 := HX5.out.turnW T8 HOX.out.1
              have hd8 := HD5.out.turn T8 HOX.out.2.1 HOX.out.2.2
              have P := hd8.put hx8 hxg hB 23 (.slice A8 (k + 1) c8) (by simp [PK.cells])
              have hv8 : ∀ i, (Value.slice A8 (k + 1) c8).ownBlock = some i → w.heap.size ≤ i := fun i e => (World.ownsRow.lt q1 i e).1
              have X : MnInv w (w8.setCell ⟨x, 23, none⟩ (.slice A8 (k + 1) c8)) g x B A n c bs qk s16 m (.int .i64 ((k : Int) + 1)) := ⟨k + 1, nm ++ [sv], .slice A8 (k + 1) c8, b5, n5, by simp, hlt, by rw [List.length_append, HLN.out]; rfl, fun s hs => (List.mem_append.1 hs).elim (HNZ.out s) (fun h => by rw [List.mem_singleton.1 h]; exact HZ9.out), P.1, P.2.1, row_turnW q1 P.2.2 (fun i e q => by have := hv8 i e; have q' : i = x := q; omega), ((HTK.out.and (HT5.out.mono fun _ e => .inl e)).trans T8 fun i e => .inr (HOX2.out i e)).and (P.2.2.mono fun _ e => .inr e), by rw [HO9.out, HMO.out]; rfl, fun hh => by rw [HV9.out (mrO_some (bs := bs) (a := b5) (by rw [HO9.out, HMO.out]; exact hh)), HMO.out, HNM.out (rTr_is (o := stM s16 k) hh).2]; rfl⟩
              have HX := Lib.hid X
              have c23' := hx8.1.2 23 _ rfl
              have f23' := hx8.2 23 (by simp [PK.cells])
              have l23' := hx8.1.1
              clear X P q1 q2 q3 T8 hd8 hv8 hx8
              refine hK.out _ _ trivial (fun hHeld9 => ?_)
              clear hK K
              refine wpAnyH_take (i := 10) (oi := _) (v := ?_) rfl (by kernel_rfl) (by kernel_rfl) (by kernel_rfl) (fun _ _ _ h => h) (Or.inl ⟨by rfl, ?_⟩) (by assumption) ?_
              rotate_left
              · (intro w hSw; (try dsimp only at hSw); go_simp; (try with_reducible rfl))
              simp only [Act.put]
              refine wpAnyH_take (i := 11) (oi := _) (v := ?_) rfl (by kernel_rfl) (by kernel_rfl) (by kernel_rfl) (fun _ _ _ h => h) (Or.inl ⟨by rfl, ?_⟩) (by assumption) ?_
              rotate_left
              · (intro w hSw; (try dsimp only at hSw); go_simp; (try with_reducible rfl))
              simp only [Act.put]
              refine wpAnyH_take (i := 12) (oi := _) (v := ?_) rfl (by kernel_rfl) (by kernel_rfl) (by kernel_rfl) (fun _ _ _ h => h) (Or.inl ⟨by rfl, ?_⟩) (by assumption) ?_
              rotate_left
              · (intro w hSw; (try dsimp only at hSw); go_simp; (try with_reducible rfl))
              simp only [Act.put]
              refine wpAnyH_ready (rs := [13]) (by kernel_rfl) (by simp) ?_
              refine AllReadyH.cons (o := _) rfl (fun K hK => ?_) AllReadyH.nil
              go_simp
              refine hK.out _ _ trivial (fun hHeld10 => ?_)
              clear hK K
              refine wpAnyH_done (by kernel_rfl) ?_ _
              clear c23 c23' f23' l23' d2
              go_wp2_with fail
              go_roundw
              have e5 : wrap64 ((k : Int) + 1) = (k : Int) + 1 := IntWalk.wrap64_in _ (by omega)
              case rel => (try rw [e5]); first | exact HX.out | ((repeat apply Exists.intro); exact HX.out) | ((repeat apply Exists.intro); refine ⟨HX.out, ?_⟩; rfl)
              case measure => (have e5 : wrap64 ((k : Int) + 1) = (k : Int) + 1 := IntWalk.wrap64_in _ (by omega)); first | exact measV hk17 | (rw [e5]; exact measV hk17)
            · go_simp
              refine (m_text (HDK.out.keep ?_) 1 (by decide) 1 rfl).mono ?_; (repeat (first | exact Grow.refl _ | refine Grow.drew ?_ | refine Grow.drewN ?_ _ | refine Grow.alloc ?_ _)); rintro e w5 ⟨sv, b5, n5, rfl, h5, t5, hsz5, ho5, hv5⟩; have HZ9 := Lib.hid hsz5; have HO9 := Lib.hid ho5; have HV9 := Lib.hid hv5; clear hsz5 ho5 hv5
              have t5' : Turn (fun k => k = g) wr w5 := (Turn.grow (show Grow wr _ by (repeat (first | exact Grow.refl _ | refine Grow.drew ?_ | refine Grow.drewN ?_ _ | refine Grow.alloc ?_ _))) _).and t5
              have HT5 := Lib.hid t5'
              have HD5 := Lib.hid h5
              have HX5 := Lib.hid (HXK.out.turnW t5' hxg)
              have HOB := Lib.hid (show ∀ i, nvk.ownBlock = some i → w.heap.size ≤ i from fun i e => (World.ownsRow.lt HOK.out i e).1)
              have HO5 := Lib.hid (show OS w5 w.heap.size nvk nm from row_turnW HOK.out t5' fun i e q => by have := HOB.out i e; have q' : i = g := q; omega)
              have HOX := Lib.hid (show (¬ nvk.ownBlock = some x) ∧ (¬ nvk.ownBlock = some g) ∧ (∀ i, nvk.ownBlock = some i → B ≤ i) from ⟨fun e => by have := HOB.out x e; omega, fun e => by have := HOB.out g e; omega, fun i e => by have := HOB.out i e; omega⟩)
              have HOX2 := HOB
              have HZ5 := Lib.hid (show w.heap.size ≤ w5.heap.size by have := t5'.size; omega)
              have c5 := HX5.out.1.2 23 _ rfl
              have c6 := ((Grow.refl w5).alloc (.cells #[.string (sv)] 9)).cell c5
              clear h5 t5 t5'
              refine hK.out _ _ trivial (fun hHeld5 => ?_)
              clear hK K
              refine wpAnyH_ready (rs := [5, 8]) (by kernel_rfl) (by simp) ?_
              refine AllReadyH.cons (o := _) rfl (fun K hK => ?_) (AllReadyH.cons (o := _) rfl (fun K hK => ?_) AllReadyH.nil)
              · go_simp
                refine hK.out _ _ trivial (fun hHeld6 => ?_)
                clear hK K
                refine wpAnyH_ready (rs := [8]) (by kernel_rfl) (by simp) ?_
                refine AllReadyH.cons (o := _) rfl (fun K hK => ?_) AllReadyH.nil
                go_simp
                refine hK.out _ _ trivial (fun hHeld6 => ?_)
                clear hK K
                refine wpAnyH_ready (rs := [9]) (by kernel_rfl) (by simp) ?_
                refine AllReadyH.cons (o := _) rfl (fun K hK => ?_) AllReadyH.nil
                refine step_appS rfl (.tmp 102) (.tmp 105) rfl w.heap.size nvk nm (by first | rfl | simp) (sv) _ (some ⟨w5.heap.size, 0, none⟩) (by first | rfl | simp) (Rd.litS (w := w5) _ (by (repeat (first | exact Grow.refl _ | refine Grow.drew ?_ | refine Grow.drewN ?_ _ | refine Grow.alloc ?_ _)))) (HO5.out.keep (by (repeat (first | exact Grow.refl _ | refine Grow.drew ?_ | refine Grow.drewN ?_ _ | refine Grow.alloc ?_ _)))) (by rw [HLN.out]; omega) (by have := HZ5.out; first | omega | (simp; omega)) ?_
                intro v8 w8 q1 q2 q3
                obtain ⟨A8, c8, e8, -⟩ := own_form q1
                rw [List.length_append, HLN.out] at e8
                replace e8 : v8 = .slice A8 (k + 1) c8 := e8
                subst e8
                have T8 : Turn (fun i => nvk.ownBlock = some i) w5 w8 := (Turn.grow (show Grow w5 _ by (repeat (first | exact Grow.refl _ | refine Grow.drew ?_ | refine Grow.drewN ?_ _ | refine Grow.alloc ?_ _))) _).and (Turn.grown q2 (fun _ h => h))
                have hx8 := HX5.out.turnW T8 HOX.out.1
                have hd8 := HD5.out.turn T8 HOX.out.2.1 HOX.out.2.2
                have P := hd8.put hx8 hxg hB 23 (.slice A8 (k + 1) c8) (by simp [PK.cells])
                have hv8 : ∀ i, (Value.slice A8 (k + 1) c8).ownBlock = some i → w.heap.size ≤ i := fun i e => (World.ownsRow.lt q1 i e).1
                have X : MnInv w (w8.setCell ⟨x, 23, none⟩ (.slice A8 (k + 1) c8)) g x B A n c bs qk s16 m (.int .i64 ((k : Int) + 1)) := ⟨k + 1, nm ++ [sv], .slice A8 (k + 1) c8, b5, n5, by simp, hlt, by rw [List.length_append, HLN.out]; rfl, fun s hs => (List.mem_append.1 hs).elim (HNZ.out s) (fun h => by rw [List.mem_singleton.1 h]; exact HZ9.out), P.1, P.2.1, row_turnW q1 P.2.2 (fun i e q => by have := hv8 i e; have q' : i = x := q; omega), ((HTK.out.and (HT5.out.mono fun _ e => .inl e)).trans T8 fun i e => .inr (HOX2.out i e)).and (P.2.2.mono fun _ e => .inr e), by rw [HO9.out, HMO.out]; rfl, fun hh => by rw [HV9.out (mrO_some (bs := bs) (a := b5) (by rw [HO9.out, HMO.out]; exact hh)), HMO.out, HNM.out (rTr_is (o := stM s16 k) hh).2]; rfl⟩
                have HX := Lib.hid X
                have c23' := hx8.1.2 23 _ rfl
                have f23' := hx8.2 23 (by simp [PK.cells])
                have l23' := hx8.1.1
                clear X P q1 q2 q3 T8 hd8 hv8 hx8
                refine hK.out _ _ trivial (fun hHeld9 => ?_)
                clear hK K
                refine wpAnyH_take (i := 10) (oi := _) (v := ?_) rfl (by kernel_rfl) (by kernel_rfl) (by kernel_rfl) (fun _ _ _ h => h) (Or.inl ⟨by rfl, ?_⟩) (by assumption) ?_
                rotate_left
                · (intro w hSw; (try dsimp only at hSw); go_simp; (try with_reducible rfl))
                simp only [Act.put]
                refine wpAnyH_take (i := 11) (oi := _) (v := ?_) rfl (by kernel_rfl) (by kernel_rfl) (by kernel_rfl) (fun _ _ _ h => h) (Or.inl ⟨by rfl, ?_⟩) (by assumption) ?_
                rotate_left
                · (intro w hSw; (try dsimp only at hSw); go_simp; (try with_reducible rfl))
                simp only [Act.put]
                refine wpAnyH_take (i := 12) (oi := _) (v := ?_) rfl (by kernel_rfl) (by kernel_rfl) (by kernel_rfl) (fun _ _ _ h => h) (Or.inl ⟨by rfl, ?_⟩) (by assumption) ?_
                rotate_left
                · (intro w hSw; (try dsimp only at hSw); go_simp; (try with_reducible rfl))
                simp only [Act.put]
                refine wpAnyH_ready (rs := [13]) (by kernel_rfl) (by simp) ?_
                refine AllReadyH.cons (o := _) rfl (fun K hK => ?_) AllReadyH.nil
                go_simp
                refine hK.out _ _ trivial (fun hHeld10 => ?_)
                clear hK K
                refine wpAnyH_done (by kernel_rfl) ?_ _
                clear c23 c23' f23' l23' d2
                go_wp2_with fail
                go_roundw
                have e5 : wrap64 ((k : Int) + 1) = (k : Int) + 1 := IntWalk.wrap64_in _ (by omega)
                case rel => (try rw [e5]); first | exact HX.out | ((repeat apply Exists.intro); exact HX.out) | ((repeat apply Exists.intro); refine ⟨HX.out, ?_⟩; rfl)
                case measure => (have e5 : wrap64 ((k : Int) + 1) = (k : Int) + 1 := IntWalk.wrap64_in _ (by omega)); first | exact measV hk17 | (rw [e5]; exact measV hk17)
              · go_simp
                refine hK.out _ _ trivial (fun hHeld6 => ?_)
                clear hK K
                refine wpAnyH_ready (rs := [5]) (by kernel_rfl) (by simp) ?_
                refine AllReadyH.cons (o := _) rfl (fun K hK => ?_) AllReadyH.nil
                go_simp
                refine hK.out _ _ trivial (fun hHeld6 => ?_)
                clear hK K
                refine wpAnyH_ready (rs := [9]) (by kernel_rfl) (by simp) ?_
                refine AllReadyH.cons (o := _) rfl (fun K hK => ?_) AllReadyH.nil
                refine step_appS rfl (.tmp 102) (.tmp 105) rfl w.heap.size nvk nm (by first | rfl | simp) (sv) _ (some ⟨w5.heap.size, 0, none⟩) (by first | rfl | simp) (Rd.litS (w := w5) _ (by (repeat (first | exact Grow.refl _ | refine Grow.drew ?_ | refine Grow.drewN ?_ _ | refine Grow.alloc ?_ _)))) (HO5.out.keep (by (repeat (first | exact Grow.refl _ | refine Grow.drew ?_ | refine Grow.drewN ?_ _ | refine Grow.alloc ?_ _)))) (by rw [HLN.out]; omega) (by have := HZ5.out; first | omega | (simp; omega)) ?_
                intro v8 w8 q1 q2 q3
                obtain ⟨A8, c8, e8, -⟩ := own_form q1
                rw [List.length_append, HLN.out] at e8
                replace e8 : v8 = .slice A8 (k + 1) c8 := e8
                subst e8
                have T8 : Turn (fun i => nvk.ownBlock = some i) w5 w8 := (Turn.grow (show Grow w5 _ by (repeat (first | exact Grow.refl _ | refine Grow.drew ?_ | refine Grow.drewN ?_ _ | refine Grow.alloc ?_ _))) _).and (Turn.grown q2 (fun _ h => h))
                have hx8 := HX5.out.turnW T8 HOX.out.1
                have hd8 := HD5.out.turn T8 HOX.out.2.1 HOX.out.2.2
                have P := hd8.put hx8 hxg hB 23 (.slice A8 (k + 1) c8) (by simp [PK.cells])
                have hv8 : ∀ i, (Value.slice A8 (k + 1) c8).ownBlock = some i → w.heap.size ≤ i := fun i e => (World.ownsRow.lt q1 i e).1
                have X : MnInv w (w8.setCell ⟨x, 23, none⟩ (.slice A8 (k + 1) c8)) g x B A n c bs qk s16 m (.int .i64 ((k : Int) + 1)) := ⟨k + 1, nm ++ [sv], .slice A8 (k + 1) c8, b5, n5, by simp, hlt, by rw [List.length_append, HLN.out]; rfl, fun s hs => (List.mem_append.1 hs).elim (HNZ.out s) (fun h => by rw [List.mem_singleton.1 h]; exact HZ9.out), P.1, P.2.1, row_turnW q1 P.2.2 (fun i e q => by have := hv8 i e; have q' : i = x := q; omega), ((HTK.out.and (HT5.out.mono fun _ e => .inl e)).trans T8 fun i e => .inr (HOX2.out i e)).and (P.2.2.mono fun _ e => .inr e), by rw [HO9.out, HMO.out]; rfl, fun hh => by rw [HV9.out (mrO_some (bs := bs) (a := b5) (by rw [HO9.out, HMO.out]; exact hh)), HMO.out, HNM.out (rTr_is (o := stM s16 k) hh).2]; rfl⟩
                have HX := Lib.hid X
                have c23' := hx8.1.2 23 _ rfl
                have f23' := hx8.2 23 (by simp [PK.cells])
                have l23' := hx8.1.1
                clear X P q1 q2 q3 T8 hd8 hv8 hx8
                refine hK.out _ _ trivial (fun hHeld9 => ?_)
                clear hK K
                refine wpAnyH_take (i := 10) (oi := _) (v := ?_) rfl (by kernel_rfl) (by kernel_rfl) (by kernel_rfl) (fun _ _ _ h => h) (Or.inl ⟨by rfl, ?_⟩) (by assumption) ?_
                rotate_left
                · (intro w hSw; (try dsimp only at hSw); go_simp; (try with_reducible rfl))
                simp only [Act.put]
                refine wpAnyH_take (i := 11) (oi := _) (v := ?_) rfl (by kernel_rfl) (by kernel_rfl) (by kernel_rfl) (fun _ _ _ h => h) (Or.inl ⟨by rfl, ?_⟩) (by assumption) ?_
                rotate_left
                · (intro w hSw; (try dsimp only at hSw); go_simp; (try with_reducible rfl))
                simp only [Act.put]
                refine wpAnyH_take (i := 12) (oi := _) (v := ?_) rfl (by kernel_rfl) (by kernel_rfl) (by kernel_rfl) (fun _ _ _ h => h) (Or.inl ⟨by rfl, ?_⟩) (by assumption) ?_
                rotate_left
                · (intro w hSw; (try dsimp only at hSw); go_simp; (try with_reducible rfl))
                simp only [Act.put]
                refine wpAnyH_ready (rs := [13]) (by kernel_rfl) (by simp) ?_
                refine AllReadyH.cons (o := _) rfl (fun K hK => ?_) AllReadyH.nil
                go_simp
                refine hK.out _ _ trivial (fun hHeld10 => ?_)
                clear hK K
                refine wpAnyH_done (by kernel_rfl) ?_ _
                clear c23 c23' f23' l23' d2
                go_wp2_with fail
                go_roundw
                have e5 : wrap64 ((k : Int) + 1) = (k : Int) + 1 := IntWalk.wrap64_in _ (by omega)
                case rel => (try rw [e5]); first | exact HX.out | ((repeat apply Exists.intro); exact HX.out) | ((repeat apply Exists.intro); refine ⟨HX.out, ?_⟩; rfl)
                case measure => (have e5 : wrap64 ((k : Int) + 1) = (k : Int) + 1 := IntWalk.wrap64_in _ (by omega)); first | exact measV hk17 | (rw [e5]; exact measV hk17)
        · obtain rfl : k = m := by omega
          have HF := HFIN (.inl rfl)
          clear HFIN
          have z4 : decide ((k : Int) < (k : Int)) = false := decide_eq_false (by omega)
          go_wp2_with fail
          go_end0
          rw [← HS0.out]
          exact ⟨rfl, HF.out⟩
end Go.Proofs.Ytgjcpchlijpjmaa
