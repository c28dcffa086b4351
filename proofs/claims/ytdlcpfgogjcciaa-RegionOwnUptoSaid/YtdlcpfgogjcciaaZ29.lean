/- From a row's arguments to our words: bytes, bounds. An argument that is a slice of slices of bytes. Arguments that are packets. No statement of the seat is proved here. -/
import Derived.Test.YtdlcpfgogjcciaaZ02
import Derived.ProofKit
import Derived.OpenShut
import Derived.Deep.Slices
import Derived.Test.YtdlcpfgogjcciaaZ27
import Derived.Test.YtdlcpfgogjcciaaRows
import Derived.DataReads
namespace Go.Proofs.Ytdlcpfgogjcciaa
open Go.RowKit

theorem i64_bounds {n : Int} (h : (Lit.int .i64 n).wf = true) : -9223372036854775808 ≤ n ∧ n ≤ 9223372036854775807 := by
  simp [Lit.wf, IntKind.min, IntKind.max, IntKind.signed, IntKind.bits] at h
  exact ⟨by omega, by omega⟩
theorem u32_bounds {n : Int} (h : (Lit.int .u32 n).wf = true) : ∃ X : Nat, n = X ∧ X < 4294967296 := by
  simp [Lit.wf, IntKind.min, IntKind.max, IntKind.signed, IntKind.bits] at h
  exact ⟨n.toNat, by omega, by omega⟩
theorem u8_bounds {n : Int} (h : (Lit.int .u8 n).wf = true) : 0 ≤ n ∧ n < 256 := by
  simp [Lit.wf, IntKind.min, IntKind.max, IntKind.signed, IntKind.bits] at h
  exact ⟨by omega, by omega⟩

/-- A slice of bytes that came in reads as a list of bytes. -/
theorem rb_of_row {w : World} {a : Option Addr} {len cap : Nat} {zs : List Int}
    (h : (a = none ∧ len = 0 ∧ cap = 0 ∧ zs = []) ∨
      ∃ x, a = some x ∧ len ≤ cap ∧ cap ≤ maxLen ∧ zs.length = cap ∧ (∀ i, i < zs.length → w.cell? (x.add i) = some (.int .u8 (zs.getD i 0))) ∧ ∀ n ∈ zs, (Lit.int .u8 n).wf = true) :
    ∃ bs : List UInt8, len = bs.length ∧ RB w w.heap.size a bs ∧ bs.length ≤ cap ∧ cap ≤ maxLen ∧ (a = none → cap = 0) := by
  rcases h with ⟨rfl, rfl, rfl, rfl⟩ | ⟨x, rfl, hl, hm, hz, hcell, hwf⟩
  · exact ⟨[], rfl, RB.nil_, Nat.le_refl _, by unfold maxLen; omega, fun _ => rfl⟩
  · have hlen : ((zs.take len).map fun z => UInt8.ofNat z.toNat).length = len := by simp; omega
    refine ⟨(zs.take len).map fun z => UInt8.ofNat z.toNat, hlen.symm, ⟨by simp [bvs], fun h0 => ?_⟩, by omega, hm, fun h => by cases h⟩
    rw [hlen] at h0
    obtain ⟨b, off, spot⟩ := x
    have hc0 := hcell 0 (by omega)
    have hspot : spot = none := by simpa [Addr.add] using World.cell?_spot hc0
    subst hspot
    have hlt := World.block_lt_of_cell? w _ hc0
    refine ⟨b, off, rfl, by simpa [Addr.add] using hlt, fun j u hu => ?_⟩
    rw [bvs, List.map_map, List.getElem?_map] at hu
    by_cases hj : j < len
    · rw [List.getElem?_take, if_pos hj, List.getElem?_eq_getElem (by omega)] at hu
      simp only [Option.map_some, Option.some.injEq, Function.comp] at hu
      have hc := hcell j (by omega)
      rw [Addr.add_lit, List.getD_eq_getElem?_getD, List.getElem?_eq_getElem (by omega)] at hc
      rw [hc, ← hu]
      have hb := u8_bounds (hwf zs[j] (List.getElem_mem _))
      simp only [Option.getD_some, bv, Option.some.injEq, Value.int.injEq, true_and]
      rw [UInt8.toNat_ofNat', Nat.mod_eq_of_lt (by omega)]
      omega
    · rw [List.getElem?_eq_none (by rw [List.length_take]; omega)] at hu
      cases hu

open Go.ChangeShapes Go.WideShapes Go.ChangeAt
set_option maxRecDepth 8000 in
/-- An argument that is a slice of bytes. -/
theorem open_bytes {H : Type} {enc : TypeId × Value → H} {W : World} {b0 base : Nat} {v : Value} {d : DataW H} {p : List MemPlace} {spare : Nat → Bool} {held : Bool}
    (hv : Value.okWide Try.prog W .any b0 44 v) (h : DataW.Trod enc Try.prog W base spare held 44 v d p) (hs : ∀ b, spare b = true) :
    ∃ (a : Option Addr) (bs : List UInt8) (c : Nat), v = .slice a bs.length c ∧ RB W W.heap.size a bs ∧ bs.length ≤ c ∧ c ≤ maxLen ∧ (a = none → c = 0) := by
  obtain ⟨a, len, cap, rfl⟩ := okWide_slice Try.underlying44 hv
  obtain ⟨fuel, hf⟩ := h
  have hrow : ∃ zs, (a = none ∧ len = 0 ∧ cap = 0 ∧ zs = []) ∨
      ∃ x, a = some x ∧ len ≤ cap ∧ cap ≤ maxLen ∧ zs.length = cap ∧ (∀ i, i < zs.length → W.cell? (x.add i) = some (.int .u8 (zs.getD i 0))) ∧ ∀ n ∈ zs, (Lit.int .u8 n).wf = true := by
    rcases open_ints Try.underlying44 Try.underlying5 (by kernel_rfl) hf with ⟨hcs, _⟩ | ⟨x, l, c, zs, hcs, _, hl, hm, hz, _, hcell, hwz⟩
    · simp [Value.cells] at hcs
      obtain ⟨rfl, rfl, rfl⟩ := hcs
      exact ⟨[], .inl ⟨rfl, rfl, rfl, rfl⟩⟩
    · simp [Value.cells] at hcs
      obtain ⟨rfl, rfl, rfl⟩ := hcs
      exact ⟨zs, .inr ⟨_, rfl, hl, hm, by simpa [hs] using hz, hcell, hwz⟩⟩
  obtain ⟨zs, hz⟩ := hrow
  obtain ⟨bs, rfl, hr, hc, hm, hn⟩ := rb_of_row hz
  exact ⟨a, bs, cap, rfl, hr, hc, hm, hn⟩
theorem u8_nat {n : Int} (h : (Lit.int .u8 n).wf = true) : ∃ X : UInt8, n = (X.toNat : Int) := by
  have := u8_bounds h
  refine ⟨UInt8.ofNat n.toNat, ?_⟩
  rw [UInt8.toNat_ofNat', Nat.mod_eq_of_lt (by omega)]
  omega

end Go.Proofs.Ytdlcpfgogjcciaa

namespace Go.Proofs.Ytdlcpfgogjcciaa
open Go.RowKit
open Go.ChangeShapes Go.WideShapes Go.ChangeAt

set_option maxRecDepth 8000 in
theorem trod_bytes {H : Type} {enc : TypeId × Value → H} {W : World} {base fuel : Nat} {cs : List Value} {x : DataW H × List MemPlace} {spare : Nat → Bool} {held : Bool}
    (hf : DataW.trod enc Try.prog W base spare held fuel 44 cs = some x) (hs : ∀ b, spare b = true) :
    ∃ (a : Option Addr) (bs : List UInt8) (c : Nat), cs = [.slice a bs.length c] ∧ RB W W.heap.size a bs ∧ bs.length ≤ c ∧ c ≤ maxLen ∧ (a = none → c = 0) := by
  rcases open_ints Try.underlying44 Try.underlying5 (by kernel_rfl) hf with ⟨hcs, _⟩ | ⟨x, l, c, zs, hcs, _, hl, hm, hz, _, hcell, hwz⟩
  · obtain ⟨bs, hb, h1, h2, h3, h4⟩ := rb_of_row (w := W) (a := none) (len := 0) (cap := 0) (zs := []) (.inl ⟨rfl, rfl, rfl, rfl⟩)
    exact ⟨none, bs, 0, by rw [hcs, ← hb], h1, h2, h3, h4⟩
  · obtain ⟨bs, hb, h1, h2, h3, h4⟩ := rb_of_row (w := W) (a := some x) (len := l) (cap := c) (zs := zs) (.inr ⟨x, rfl, hl, hm, by simpa [hs] using hz, hcell, hwz⟩)
    exact ⟨some x, bs, c, by rw [hcs, ← hb], h1, h2, h3, h4⟩

/-- A slice of slices of bytes that is read. -/
def Parts (w : World) (B : Nat) (A : Option Addr) (L : List (List UInt8)) : Prop :=
  0 < L.length → ∃ b o, A = some ⟨b, o, none⟩ ∧ b < B ∧ ∀ k (h : k < L.length), ∃ Ak ck, w.cell? ⟨b, o + k, none⟩ = some (.slice Ak (L[k]).length ck) ∧ RB w B Ak L[k] ∧ (L[k]).length ≤ ck ∧ ck ≤ maxLen ∧ (Ak = none → ck = 0)
theorem Parts.below {w w' : World} {B : Nat} {A : Option Addr} {L : List (List UInt8)} (h : Parts w B A L) (hb : Below B w w') : Parts w' B A L := by
  intro h0
  obtain ⟨b, o, e, hlt, hk⟩ := h h0
  refine ⟨b, o, e, hlt, fun k hk2 => ?_⟩
  obtain ⟨Ak, ck, h1, h2, h3⟩ := hk k hk2
  exact ⟨Ak, ck, (hb.cell (p := ⟨b, o + k, none⟩) hlt).trans h1, h2.below hb, h3⟩

theorem choose_list {α : Type} {n : Nat} {p : Nat → α → Prop} (h : ∀ i, i < n → ∃ a, p i a) : ∃ L : List α, L.length = n ∧ ∀ i (hi : i < L.length), p i L[i] := by
  induction n with
  | zero => exact ⟨[], rfl, fun i hi => by simp at hi⟩
  | succ n ih =>
    obtain ⟨L, hL, hp⟩ := ih (fun i hi => h i (by omega))
    obtain ⟨a, ha⟩ := h n (by omega)
    refine ⟨L ++ [a], by simp [hL], fun i hi => ?_⟩
    by_cases hi2 : i < L.length
    · rw [List.getElem_append_left hi2]; exact hp i hi2
    · have e : i = n := by simp at hi; omega
      subst e
      rw [List.getElem_append_right (by omega)]
      simpa [hL] using ha

set_option maxRecDepth 8000 in
theorem open_parts {H : Type} {enc : TypeId × Value → H} {W : World} {b0 base : Nat} {v : Value} {d : DataW H} {p : List MemPlace} {spare : Nat → Bool} {held : Bool} {T : TypeId}
    (hT : Try.prog.underlying T = some (.slice 44)) (hv : Value.okWide Try.prog W .any b0 T v) (h : DataW.Trod enc Try.prog W base spare held T v d p) (hs : ∀ b, spare b = true) :
    ∃ (a : Option Addr) (L : List (List UInt8)) (c : Nat), v = .slice a L.length c ∧ Parts W W.heap.size a L ∧ L.length ≤ c ∧ c ≤ maxLen := by
  obtain ⟨a, len, cap, rfl⟩ := okWide_slice hT hv
  obtain ⟨fuel, hf⟩ := h
  rcases Deep.open_slice1 hT (by kernel_rfl) hf with ⟨hcs, _⟩ | ⟨x, l, c, m, n, V, D, Pl, hcs, _, hl, hm, hmm, _, hx⟩
  · simp [Value.cells] at hcs
    obtain ⟨rfl, rfl, rfl⟩ := hcs
    exact ⟨none, [], 0, rfl, fun h0 => by simp at h0, Nat.le_refl _, by unfold maxLen; omega⟩
  · simp [Value.cells] at hcs
    obtain ⟨rfl, rfl, rfl⟩ := hcs
    have hmc : m = cap := by rw [hmm, hs]; rfl
    have hel : ∀ i, i < len → ∃ bs : List UInt8, ∃ Ak ck, V i = .slice Ak bs.length ck ∧ RB W W.heap.size Ak bs ∧ bs.length ≤ ck ∧ ck ≤ maxLen ∧ (Ak = none → ck = 0) := by
      intro i hi
      obtain ⟨_, ht⟩ := hx i (by omega)
      obtain ⟨Ak, bs, ck, e, h1, h2, h3, h4⟩ := trod_bytes ht hs
      injection e with e
      exact ⟨bs, Ak, ck, e, h1, h2, h3, h4⟩
    obtain ⟨L, hL, hp⟩ := choose_list hel
    refine ⟨some x, L, cap, by rw [hL], fun h0 => ?_, by omega, hm⟩
    rw [hL] at h0
    obtain ⟨hc0, _⟩ := hx 0 (by omega)
    obtain ⟨b, off, spot⟩ := x
    have hspot : spot = none := by simpa [Addr.add] using World.cell?_spot hc0
    subst hspot
    have hlt := World.block_lt_of_cell? W _ hc0
    refine ⟨b, off, rfl, by simpa [Addr.add] using hlt, fun k hk => ?_⟩
    obtain ⟨Ak, ck, e, h1⟩ := hp k hk
    obtain ⟨hck, _⟩ := hx k (by omega)
    rw [Addr.add_lit, e] at hck
    exact ⟨Ak, ck, hck, h1⟩
end Go.Proofs.Ytdlcpfgogjcciaa

namespace Go.Proofs.Ytdlcpfgogjcciaa
open Go.RowKit
open Go.ChangeShapes Go.WideShapes Go.ChangeAt

theorem bulk_one {H : Type} (d : DataW H) : 1 ≤ Rows.uptoBulk d := by
  cases d with
  | lit l => cases l <;> simp [Rows.uptoBulk]
  | _ => simp [Rows.uptoBulk]
theorem bulk_mem {H : Type} {d : DataW H} {l : List (DataW H)} (h : d ∈ l) : Rows.uptoBulk d ≤ Rows.uptoBulkAll l := by
  induction l with
  | nil => cases h
  | cons x r ih =>
    have h1 : Rows.uptoBulkAll (x :: r) = Rows.uptoBulk x + Rows.uptoBulkAll r := by rw [Rows.uptoBulkAll]
    rcases List.mem_cons.1 h with rfl | e
    · omega
    · have := ih e; omega
theorem bulk_len {H : Type} (l : List (DataW H)) : l.length ≤ Rows.uptoBulkAll l := by
  induction l with
  | nil => exact Nat.zero_le _
  | cons x r ih =>
    have h1 : Rows.uptoBulkAll (x :: r) = Rows.uptoBulk x + Rows.uptoBulkAll r := by rw [Rows.uptoBulkAll]
    have := bulk_one x
    rw [List.length_cons]
    omega
theorem bulk_agg {H : Type} {xs : List (DataW H × List MemPlace)} {B : Nat} (h : Rows.uptoBulk (.agg (xs.map (·.1))) ≤ B) : ∀ y ∈ xs, Rows.uptoBulk y.1 ≤ B := fun y hy => by
  have h1 : Rows.uptoBulk (DataW.agg (xs.map (·.1))) = Rows.uptoBulkAll (xs.map (·.1)) + 1 := by rw [Rows.uptoBulk]
  have := bulk_mem (List.mem_map_of_mem (f := (·.1)) hy)
  omega
theorem bulk_slice {H : Type} {l r : List (DataW H)} {B : Nat} (h : Rows.uptoBulk (.slice l r) ≤ B) : l.length ≤ B ∧ ∀ d ∈ l, Rows.uptoBulk d ≤ B := by
  have h1 : Rows.uptoBulk (DataW.slice l r) = Rows.uptoBulkAll l + Rows.uptoBulkAll r + 1 := by rw [Rows.uptoBulk]
  have h2 := bulk_len l
  exact ⟨by omega, fun d hd => by have := bulk_mem hd; omega⟩
theorem bulk_str {H : Type} {s : ByteArray} {B : Nat} (h : Rows.uptoBulk (DataW.lit (H := H) (.string s.data.toList)) ≤ B) : s.size ≤ B := by
  have h1 : Rows.uptoBulk (DataW.lit (H := H) (.string s.data.toList)) = s.data.toList.length + 1 := by rw [Rows.uptoBulk]
  have h2 : s.data.toList.length = s.size := by rw [Array.length_toList]; rfl
  omega
theorem small_all {H : Type} {l : List (DataW H)} (h : Rows.uptoSmall H l = true) : ∀ d ∈ l, Rows.uptoBulk d ≤ 1048576 := fun d hd => by
  have h1 : Rows.uptoBulkAll l ≤ 1048576 := of_decide_eq_true h
  have := bulk_mem hd
  omega
theorem k_bool : Try.prog.cellsOf 4 = 1 := by kernel_rfl
theorem k_ints : Try.prog.cellsOf 40 = 1 := by kernel_rfl
theorem k_dq : Try.prog.cellsOf 42 = 46 := by kernel_rfl
theorem k_int : Try.prog.cellsOf 3 = 1 := by kernel_rfl
theorem k_errno : Try.prog.cellsOf 25 = 1 := by kernel_rfl
theorem k_str : Try.prog.cellsOf 9 = 1 := by kernel_rfl
theorem k_strs : Try.prog.cellsOf 26 = 1 := by kernel_rfl
theorem k_b4 : Try.prog.cellsOf 31 = 4 := by kernel_rfl
theorem k_o8 : Try.prog.cellsOf 32 = 8 := by kernel_rfl
theorem k_info : Try.prog.cellsOf 28 = 3 := by kernel_rfl
theorem k_call : Try.prog.cellsOf 24 = 8 := by kernel_rfl
theorem k_reply : Try.prog.cellsOf 30 = 7 := by kernel_rfl
theorem k_node : Try.prog.cellsOf 34 = 15 := by kernel_rfl
theorem k_pk : Try.prog.cellsOf 36 = 43 := by kernel_rfl

set_option maxRecDepth 8000 in
theorem trod_strs {H : Type} {enc : TypeId × Value → H} {W : World} {base fuel : Nat} {cs : List Value} {x : DataW H × List MemPlace} {spare : Nat → Bool} {held : Bool}
    (hf : DataW.trod enc Try.prog W base spare held fuel 26 cs = some x) (hs : ∀ b, spare b = true) (hbk : Rows.uptoBulk x.1 ≤ 1048576) : ∃ (a : Option Addr) (L : List ByteArray) (c : Nat), cs = [.slice a L.length c] ∧ RS W a L.length L ∧ (L.length ≤ 1048576 ∧ ∀ s ∈ L, s.size ≤ 1048576) := by
  rcases Deep.open_slice Try.underlying26 hf with ⟨hcs, _⟩ | ⟨x, l, c, m, n, D, Pl, hcs, _, hl, hm, hmm, rfl, hx⟩
  · exact ⟨none, [], 0, hcs, ⟨rfl, rfl, fun h => absurd h (by simp)⟩, by simp, fun s hs => by simp at hs⟩
  · have hmc : m = c := by rw [hmm, hs]; rfl
    have hbs := bulk_slice hbk
    have hel : ∀ i, i < l → ∃ r : ByteArray, r.size ≤ 1048576 ∧ W.cell? (x.add (i * 1)) = some (.string r) := by
      intro i hi
      obtain ⟨cs', h1, ht⟩ := hx i (by omega)
      rw [k_str] at h1
      obtain ⟨r, rfl, hr, -⟩ := DataW.trod_string Try.underlying9 ht
      have hD : D i = .lit (.string r.data.toList) := (Prod.mk.inj hr).1
      have hsz : r.size ≤ 1048576 := bulk_str (by rw [← hD]; exact hbs.2 _ (List.mem_map_of_mem (List.mem_range.2 hi)))
      have := (World.cells?_some h1).2.2 0 (by omega)
      exact ⟨r, hsz, by simpa [Addr.add_lit, Addr.add] using this⟩
    obtain ⟨L, hL, hp⟩ := choose_list hel
    have hn : L.length ≤ 1048576 := by
      have := hbs.1
      rw [List.length_map, List.length_range] at this
      omega
    refine ⟨some x, L, c, by rw [hL]; exact hcs, ⟨rfl, by simp [sts], fun h0 => ?_⟩, hn, fun s hs => ?_⟩
    case refine_2 =>
      obtain ⟨i, hi, rfl⟩ := List.getElem_of_mem hs
      exact (hp i hi).1
    have hc0 := (hp 0 (by omega)).2
    obtain ⟨b, off, spot⟩ := x
    have hspot : spot = none := by simpa [Addr.add] using World.cell?_spot hc0
    subst hspot
    have hlt := World.block_lt_of_cell? W _ hc0
    refine ⟨b, off, rfl, by simpa [Addr.add] using hlt, fun i u hu => ?_⟩
    rw [sts, List.getElem?_map] at hu
    by_cases hi : i < L.length
    · rw [List.getElem?_eq_getElem hi] at hu
      simp only [Option.map_some, Option.some.injEq] at hu
      have := (hp i (by omega)).2
      rw [Addr.add_lit, Nat.mul_one] at this
      rw [this, ← hu]
    · rw [List.getElem?_eq_none (by omega)] at hu
      cases hu

theorem list22 {l : List Value} (h : l.length = 22) : ∃ c0 c1 c2 c3 c4 c5 c6 c7 c8 c9 c10 c11 c12 c13 c14 c15 c16 c17 c18 c19 c20 c21, l = [c0, c1, c2, c3, c4, c5, c6, c7, c8, c9, c10, c11, c12, c13, c14, c15, c16, c17, c18, c19, c20, c21] := by
  match l, h with
  | [c0, c1, c2, c3, c4, c5, c6, c7, c8, c9, c10, c11, c12, c13, c14, c15, c16, c17, c18, c19, c20, c21], _ => exact ⟨c0, c1, c2, c3, c4, c5, c6, c7, c8, c9, c10, c11, c12, c13, c14, c15, c16, c17, c18, c19, c20, c21, rfl⟩
theorem list21 {l : List Value} (h : l.length = 21) : ∃ c22 c23 c24 c25 c26 c27 c28 c29 c30 c31 c32 c33 c34 c35 c36 c37 c38 c39 c40 c41 c42, l = [c22, c23, c24, c25, c26, c27, c28, c29, c30, c31, c32, c33, c34, c35, c36, c37, c38, c39, c40, c41, c42] := by
  match l, h with
  | [c22, c23, c24, c25, c26, c27, c28, c29, c30, c31, c32, c33, c34, c35, c36, c37, c38, c39, c40, c41, c42], _ => exact ⟨c22, c23, c24, c25, c26, c27, c28, c29, c30, c31, c32, c33, c34, c35, c36, c37, c38, c39, c40, c41, c42, rfl⟩
theorem list43 {l : List Value} (h : l.length = 43) : ∃ c0 c1 c2 c3 c4 c5 c6 c7 c8 c9 c10 c11 c12 c13 c14 c15 c16 c17 c18 c19 c20 c21 c22 c23 c24 c25 c26 c27 c28 c29 c30 c31 c32 c33 c34 c35 c36 c37 c38 c39 c40 c41 c42, l = [c0, c1, c2, c3, c4, c5, c6, c7, c8, c9, c10, c11, c12, c13, c14, c15, c16, c17, c18, c19, c20, c21, c22, c23, c24, c25, c26, c27, c28, c29, c30, c31, c32, c33, c34, c35, c36, c37, c38, c39, c40, c41, c42] := by
  obtain ⟨c0, c1, c2, c3, c4, c5, c6, c7, c8, c9, c10, c11, c12, c13, c14, c15, c16, c17, c18, c19, c20, c21, h1⟩ := list22 (l := l.take 22) (by rw [List.length_take]; omega)
  obtain ⟨c22, c23, c24, c25, c26, c27, c28, c29, c30, c31, c32, c33, c34, c35, c36, c37, c38, c39, c40, c41, c42, h2⟩ := list21 (l := l.drop 22) (by rw [List.length_drop]; omega)
  refine ⟨c0, c1, c2, c3, c4, c5, c6, c7, c8, c9, c10, c11, c12, c13, c14, c15, c16, c17, c18, c19, c20, c21, c22, c23, c24, c25, c26, c27, c28, c29, c30, c31, c32, c33, c34, c35, c36, c37, c38, c39, c40, c41, c42, ?_⟩
  rw [← List.take_append_drop 22 l, h1, h2]
  rfl

set_option maxRecDepth 8000 in
theorem trod_b4 {H : Type} {enc : TypeId × Value → H} {W : World} {base fuel : Nat} {cs : List Value} {x : DataW H × List MemPlace} {spare : Nat → Bool} {held : Bool}
    (hf : DataW.trod enc Try.prog W base spare held fuel 31 cs = some x) : ∃ z0 z1 z2 z3 : Int, cs = [.int .i64 z0, .int .i64 z1, .int .i64 z2, .int .i64 z3] ∧ i64B z0 ∧ i64B z1 ∧ i64B z2 ∧ i64B z3 := by
  obtain ⟨xsa, ma, _, -, hl, hla, hga⟩ := DataW.trod_array Try.underlying31 hf
  match cs, hl.trans k_b4 with
  | [c0, c1, c2, c3], _ =>
    obtain ⟨z0, h0, b0⟩ : ∃ z, [c0] = [Value.int .i64 z] ∧ i64B z := by
      have hi := hga 0 (by omega)
      rw [k_int] at hi
      cases hx : xsa[0]? with
      | none => rw [List.getElem?_eq_none_iff] at hx; omega
      | some q =>
        rw [hx] at hi
        obtain ⟨z, hz, -, b⟩ := DataW.trod_int Try.underlying3 hi
        exact ⟨z, by simpa using hz, i64_bounds b⟩
    obtain ⟨z1, h1, b1⟩ : ∃ z, [c1] = [Value.int .i64 z] ∧ i64B z := by
      have hi := hga 1 (by omega)
      rw [k_int] at hi
      cases hx : xsa[1]? with
      | none => rw [List.getElem?_eq_none_iff] at hx; omega
      | some q =>
        rw [hx] at hi
        obtain ⟨z, hz, -, b⟩ := DataW.trod_int Try.underlying3 hi
        exact ⟨z, by simpa using hz, i64_bounds b⟩
    obtain ⟨z2, h2, b2⟩ : ∃ z, [c2] = [Value.int .i64 z] ∧ i64B z := by
      have hi := hga 2 (by omega)
      rw [k_int] at hi
      cases hx : xsa[2]? with
      | none => rw [List.getElem?_eq_none_iff] at hx; omega
      | some q =>
        rw [hx] at hi
        obtain ⟨z, hz, -, b⟩ := DataW.trod_int Try.underlying3 hi
        exact ⟨z, by simpa using hz, i64_bounds b⟩
    obtain ⟨z3, h3, b3⟩ : ∃ z, [c3] = [Value.int .i64 z] ∧ i64B z := by
      have hi := hga 3 (by omega)
      rw [k_int] at hi
      cases hx : xsa[3]? with
      | none => rw [List.getElem?_eq_none_iff] at hx; omega
      | some q =>
        rw [hx] at hi
        obtain ⟨z, hz, -, b⟩ := DataW.trod_int Try.underlying3 hi
        exact ⟨z, by simpa using hz, i64_bounds b⟩
    simp only [List.cons.injEq, and_true] at h0 h1 h2 h3
    subst h0 h1 h2 h3
    exact ⟨z0, z1, z2, z3, rfl, b0, b1, b2, b3⟩

set_option maxRecDepth 8000 in
theorem trod_o8 {H : Type} {enc : TypeId × Value → H} {W : World} {base fuel : Nat} {cs : List Value} {x : DataW H × List MemPlace} {spare : Nat → Bool} {held : Bool}
    (hf : DataW.trod enc Try.prog W base spare held fuel 32 cs = some x) : ∃ z0 z1 z2 z3 z4 z5 z6 z7 : Int, cs = [.int .i64 z0, .int .i64 z1, .int .i64 z2, .int .i64 z3, .int .i64 z4, .int .i64 z5, .int .i64 z6, .int .i64 z7] ∧ i64B z0 ∧ i64B z1 ∧ i64B z2 ∧ i64B z3 ∧ i64B z4 ∧ i64B z5 ∧ i64B z6 ∧ i64B z7 := by
  obtain ⟨xsa, ma, _, -, hl, hla, hga⟩ := DataW.trod_array Try.underlying32 hf
  match cs, hl.trans k_o8 with
  | [c0, c1, c2, c3, c4, c5, c6, c7], _ =>
    obtain ⟨z0, h0, b0⟩ : ∃ z, [c0] = [Value.int .i64 z] ∧ i64B z := by
      have hi := hga 0 (by omega)
      rw [k_int] at hi
      cases hx : xsa[0]? with
      | none => rw [List.getElem?_eq_none_iff] at hx; omega
      | some q =>
        rw [hx] at hi
        obtain ⟨z, hz, -, b⟩ := DataW.trod_int Try.underlying3 hi
        exact ⟨z, by simpa using hz, i64_bounds b⟩
    obtain ⟨z1, h1, b1⟩ : ∃ z, [c1] = [Value.int .i64 z] ∧ i64B z := by
      have hi := hga 1 (by omega)
      rw [k_int] at hi
      cases hx : xsa[1]? with
      | none => rw [List.getElem?_eq_none_iff] at hx; omega
      | some q =>
        rw [hx] at hi
        obtain ⟨z, hz, -, b⟩ := DataW.trod_int Try.underlying3 hi
        exact ⟨z, by simpa using hz, i64_bounds b⟩
    obtain ⟨z2, h2, b2⟩ : ∃ z, [c2] = [Value.int .i64 z] ∧ i64B z := by
      have hi := hga 2 (by omega)
      rw [k_int] at hi
      cases hx : xsa[2]? with
      | none => rw [List.getElem?_eq_none_iff] at hx; omega
      | some q =>
        rw [hx] at hi
        obtain ⟨z, hz, -, b⟩ := DataW.trod_int Try.underlying3 hi
        exact ⟨z, by simpa using hz, i64_bounds b⟩
    obtain ⟨z3, h3, b3⟩ : ∃ z, [c3] = [Value.int .i64 z] ∧ i64B z := by
      have hi := hga 3 (by omega)
      rw [k_int] at hi
      cases hx : xsa[3]? with
      | none => rw [List.getElem?_eq_none_iff] at hx; omega
      | some q =>
        rw [hx] at hi
        obtain ⟨z, hz, -, b⟩ := DataW.trod_int Try.underlying3 hi
        exact ⟨z, by simpa using hz, i64_bounds b⟩
    obtain ⟨z4, h4, b4⟩ : ∃ z, [c4] = [Value.int .i64 z] ∧ i64B z := by
      have hi := hga 4 (by omega)
      rw [k_int] at hi
      cases hx : xsa[4]? with
      | none => rw [List.getElem?_eq_none_iff] at hx; omega
      | some q =>
        rw [hx] at hi
        obtain ⟨z, hz, -, b⟩ := DataW.trod_int Try.underlying3 hi
        exact ⟨z, by simpa using hz, i64_bounds b⟩
    obtain ⟨z5, h5, b5⟩ : ∃ z, [c5] = [Value.int .i64 z] ∧ i64B z := by
      have hi := hga 5 (by omega)
      rw [k_int] at hi
      cases hx : xsa[5]? with
      | none => rw [List.getElem?_eq_none_iff] at hx; omega
      | some q =>
        rw [hx] at hi
        obtain ⟨z, hz, -, b⟩ := DataW.trod_int Try.underlying3 hi
        exact ⟨z, by simpa using hz, i64_bounds b⟩
    obtain ⟨z6, h6, b6⟩ : ∃ z, [c6] = [Value.int .i64 z] ∧ i64B z := by
      have hi := hga 6 (by omega)
      rw [k_int] at hi
      cases hx : xsa[6]? with
      | none => rw [List.getElem?_eq_none_iff] at hx; omega
      | some q =>
        rw [hx] at hi
        obtain ⟨z, hz, -, b⟩ := DataW.trod_int Try.underlying3 hi
        exact ⟨z, by simpa using hz, i64_bounds b⟩
    obtain ⟨z7, h7, b7⟩ : ∃ z, [c7] = [Value.int .i64 z] ∧ i64B z := by
      have hi := hga 7 (by omega)
      rw [k_int] at hi
      cases hx : xsa[7]? with
      | none => rw [List.getElem?_eq_none_iff] at hx; omega
      | some q =>
        rw [hx] at hi
        obtain ⟨z, hz, -, b⟩ := DataW.trod_int Try.underlying3 hi
        exact ⟨z, by simpa using hz, i64_bounds b⟩
    simp only [List.cons.injEq, and_true] at h0 h1 h2 h3 h4 h5 h6 h7
    subst h0 h1 h2 h3 h4 h5 h6 h7
    exact ⟨z0, z1, z2, z3, z4, z5, z6, z7, rfl, b0, b1, b2, b3, b4, b5, b6, b7⟩

set_option maxHeartbeats 4000000 in
set_option maxRecDepth 8000 in
theorem trod_info {H : Type} {enc : TypeId × Value → H} {W : World} {base fuel : Nat} {cs : List Value} {x : DataW H × List MemPlace} {spare : Nat → Bool} {held : Bool}
    (hf : DataW.trod enc Try.prog W base spare held fuel 28 cs = some x) : ∃ (z0 : Int) (z1 : Int) (z2 : Int), cs = [.int .i64 z0, .int .i64 z1, .int .i64 z2] ∧ i64B z0 ∧ i64B z1 ∧ i64B z2 := by
  obtain ⟨xs, n, _, rfl, hl, hlen, hg⟩ := DataW.trod_struct Try.underlying28 hf
  skip
  match cs, hl.trans k_info with
  | [c0, c1, c2], _ =>
    match xs, hlen with
    | [y0, y1, y2], _ =>
      have g0 : DataW.trod enc Try.prog W base spare held n 3 [c0] = some y0 := by simpa [k_int] using hg 0 _ rfl
      have g1 : DataW.trod enc Try.prog W base spare held n 3 [c1] = some y1 := by simpa [k_int] using hg 1 _ rfl
      have g2 : DataW.trod enc Try.prog W base spare held n 3 [c2] = some y2 := by simpa [k_int] using hg 2 _ rfl
      obtain ⟨z0, h0, -, b0⟩ := DataW.trod_int Try.underlying3 g0
      obtain ⟨z1, h1, -, b1⟩ := DataW.trod_int Try.underlying3 g1
      obtain ⟨z2, h2, -, b2⟩ := DataW.trod_int Try.underlying3 g2
      simp only [List.cons.injEq, and_true] at h0 h1 h2
      subst h0
      subst h1
      subst h2
      exact ⟨z0, z1, z2, rfl, i64_bounds b0, i64_bounds b1, i64_bounds b2⟩

set_option maxHeartbeats 4000000 in
set_option maxRecDepth 8000 in
theorem trod_call {H : Type} {enc : TypeId × Value → H} {W : World} {base fuel : Nat} {cs : List Value} {x : DataW H × List MemPlace} {spare : Nat → Bool} {held : Bool}
    (hf : DataW.trod enc Try.prog W base spare held fuel 24 cs = some x) (hbk : Rows.uptoBulk x.1 ≤ 1048576) : ∃ (z0 : Int) (s1 : ByteArray) (s2 : ByteArray) (z3 : Int) (z4 : Int) (z5 : Int) (z6 : Int) (s7 : ByteArray), cs = [.int .i64 z0, .string s1, .string s2, .int .i64 z3, .int .i64 z4, .int .i64 z5, .int .i64 z6, .string s7] ∧ s1.size ≤ 1048576 ∧ s2.size ≤ 1048576 ∧ s7.size ≤ 1048576 ∧ i64B z0 ∧ i64B z3 ∧ i64B z4 ∧ i64B z5 ∧ i64B z6 := by
  obtain ⟨xs, n, _, rfl, hl, hlen, hg⟩ := DataW.trod_struct Try.underlying24 hf
  have hbk' := bulk_agg hbk
  match cs, hl.trans k_call with
  | [c0, c1, c2, c3, c4, c5, c6, c7], _ =>
    match xs, hlen with
    | [y0, y1, y2, y3, y4, y5, y6, y7], _ =>
      have g0 : DataW.trod enc Try.prog W base spare held n 3 [c0] = some y0 := by simpa [k_int] using hg 0 _ rfl
      have g1 : DataW.trod enc Try.prog W base spare held n 9 [c1] = some y1 := by simpa [k_str] using hg 1 _ rfl
      have e1 : Rows.uptoBulk y1.1 ≤ 1048576 := hbk' y1 (by simp)
      have g2 : DataW.trod enc Try.prog W base spare held n 9 [c2] = some y2 := by simpa [k_str] using hg 2 _ rfl
      have e2 : Rows.uptoBulk y2.1 ≤ 1048576 := hbk' y2 (by simp)
      have g3 : DataW.trod enc Try.prog W base spare held n 3 [c3] = some y3 := by simpa [k_int] using hg 3 _ rfl
      have g4 : DataW.trod enc Try.prog W base spare held n 3 [c4] = some y4 := by simpa [k_int] using hg 4 _ rfl
      have g5 : DataW.trod enc Try.prog W base spare held n 3 [c5] = some y5 := by simpa [k_int] using hg 5 _ rfl
      have g6 : DataW.trod enc Try.prog W base spare held n 3 [c6] = some y6 := by simpa [k_int] using hg 6 _ rfl
      have g7 : DataW.trod enc Try.prog W base spare held n 9 [c7] = some y7 := by simpa [k_str] using hg 7 _ rfl
      have e7 : Rows.uptoBulk y7.1 ≤ 1048576 := hbk' y7 (by simp)
      obtain ⟨z0, h0, -, b0⟩ := DataW.trod_int Try.underlying3 g0
      obtain ⟨s1, h1, rfl, -⟩ := DataW.trod_string Try.underlying9 g1
      have t1 : s1.size ≤ 1048576 := bulk_str e1
      obtain ⟨s2, h2, rfl, -⟩ := DataW.trod_string Try.underlying9 g2
      have t2 : s2.size ≤ 1048576 := bulk_str e2
      obtain ⟨z3, h3, -, b3⟩ := DataW.trod_int Try.underlying3 g3
      obtain ⟨z4, h4, -, b4⟩ := DataW.trod_int Try.underlying3 g4
      obtain ⟨z5, h5, -, b5⟩ := DataW.trod_int Try.underlying3 g5
      obtain ⟨z6, h6, -, b6⟩ := DataW.trod_int Try.underlying3 g6
      obtain ⟨s7, h7, rfl, -⟩ := DataW.trod_string Try.underlying9 g7
      have t7 : s7.size ≤ 1048576 := bulk_str e7
      simp only [List.cons.injEq, and_true] at h0 h1 h2 h3 h4 h5 h6 h7
      subst h0
      subst h1
      subst h2
      subst h3
      subst h4
      subst h5
      subst h6
      subst h7
      exact ⟨z0, s1, s2, z3, z4, z5, z6, s7, rfl, t1, t2, t7, i64_bounds b0, i64_bounds b3, i64_bounds b4, i64_bounds b5, i64_bounds b6⟩

set_option maxHeartbeats 4000000 in
set_option maxRecDepth 8000 in
theorem trod_reply {H : Type} {enc : TypeId × Value → H} {W : World} {base fuel : Nat} {cs : List Value} {x : DataW H × List MemPlace} {spare : Nat → Bool} {held : Bool}
    (hf : DataW.trod enc Try.prog W base spare held fuel 30 cs = some x) (hs : ∀ b, spare b = true) (hbk : Rows.uptoBulk x.1 ≤ 1048576) : ∃ (z0 : Int) (z1 : Int) (s2 : ByteArray) (A : Option Addr) (L : List ByteArray) (c : Nat) (z4 : Int) (z5 : Int) (z6 : Int), cs = [.int .i64 z0, .int .i64 z1, .string s2, .slice A L.length c, .int .i64 z4, .int .i64 z5, .int .i64 z6] ∧ RS W A L.length L ∧ (L.length ≤ 1048576 ∧ ∀ s ∈ L, s.size ≤ 1048576) ∧ s2.size ≤ 1048576 ∧ i64B z0 ∧ i64B z1 ∧ i64B z4 ∧ i64B z5 ∧ i64B z6 := by
  obtain ⟨xs, n, _, rfl, hl, hlen, hg⟩ := DataW.trod_struct Try.underlying30 hf
  have hbk' := bulk_agg hbk
  match cs, hl.trans k_reply with
  | [c0, c1, c2, c3, c4, c5, c6], _ =>
    match xs, hlen with
    | [y0, y1, y2, y3, y4], _ =>
      have g0 : DataW.trod enc Try.prog W base spare held n 25 [c0] = some y0 := by simpa [k_errno] using hg 0 _ rfl
      have g1 : DataW.trod enc Try.prog W base spare held n 3 [c1] = some y1 := by simpa [k_int] using hg 1 _ rfl
      have g2 : DataW.trod enc Try.prog W base spare held n 9 [c2] = some y2 := by simpa [k_str] using hg 2 _ rfl
      have e2 : Rows.uptoBulk y2.1 ≤ 1048576 := hbk' y2 (by simp)
      have g3 : DataW.trod enc Try.prog W base spare held n 26 [c3] = some y3 := by simpa [k_strs] using hg 3 _ rfl
      have e3 : Rows.uptoBulk y3.1 ≤ 1048576 := hbk' y3 (by simp)
      have g4 : DataW.trod enc Try.prog W base spare held n 28 [c4, c5, c6] = some y4 := by simpa [k_info] using hg 4 _ rfl
      obtain ⟨z0, h0, -, b0⟩ := DataW.trod_int Try.underlying25 g0
      obtain ⟨z1, h1, -, b1⟩ := DataW.trod_int Try.underlying3 g1
      obtain ⟨s2, h2, rfl, -⟩ := DataW.trod_string Try.underlying9 g2
      have t2 : s2.size ≤ 1048576 := bulk_str e2
      obtain ⟨A, L, c, h3, hr, hrs⟩ := trod_strs g3 hs e3
      obtain ⟨z4, z5, z6, h4, b4, b5, b6⟩ := trod_info g4
      simp only [List.cons.injEq, and_true] at h0 h1 h2 h3 h4
      subst h0
      subst h1
      subst h2
      subst h3
      obtain ⟨rfl, rfl, rfl⟩ := h4
      exact ⟨z0, z1, s2, A, L, c, z4, z5, z6, rfl, hr, hrs, t2, i64_bounds b0, i64_bounds b1, b4, b5, b6⟩

set_option maxHeartbeats 4000000 in
set_option maxRecDepth 8000 in
theorem trod_node {H : Type} {enc : TypeId × Value → H} {W : World} {base fuel : Nat} {cs : List Value} {x : DataW H × List MemPlace} {spare : Nat → Bool} {held : Bool}
    (hf : DataW.trod enc Try.prog W base spare held fuel 34 cs = some x) : ∃ (z0 : Int) (z1 : Int) (z2 : Int) (z3 : Int) (z4 : Int) (z5 : Int) (z6 : Int) (z7 : Int) (z8 : Int) (z9 : Int) (z10 : Int) (z11 : Int) (z12 : Int) (z13 : Int) (z14 : Int), cs = [.int .i64 z0, .int .i64 z1, .int .i64 z2, .int .i64 z3, .int .i64 z4, .int .i64 z5, .int .i64 z6, .int .i64 z7, .int .i64 z8, .int .i64 z9, .int .i64 z10, .int .i64 z11, .int .i64 z12, .int .i64 z13, .int .i64 z14] ∧ i64B z0 ∧ i64B z1 ∧ i64B z2 ∧ i64B z3 ∧ i64B z4 ∧ i64B z5 ∧ i64B z6 ∧ i64B z7 ∧ i64B z8 ∧ i64B z9 ∧ i64B z10 ∧ i64B z11 ∧ i64B z12 ∧ i64B z13 ∧ i64B z14 := by
  obtain ⟨xs, n, _, rfl, hl, hlen, hg⟩ := DataW.trod_struct Try.underlying34 hf
  skip
  match cs, hl.trans k_node with
  | [c0, c1, c2, c3, c4, c5, c6, c7, c8, c9, c10, c11, c12, c13, c14], _ =>
    match xs, hlen with
    | [y0, y1, y2, y3, y4], _ =>
      have g0 : DataW.trod enc Try.prog W base spare held n 3 [c0] = some y0 := by simpa [k_int] using hg 0 _ rfl
      have g1 : DataW.trod enc Try.prog W base spare held n 3 [c1] = some y1 := by simpa [k_int] using hg 1 _ rfl
      have g2 : DataW.trod enc Try.prog W base spare held n 3 [c2] = some y2 := by simpa [k_int] using hg 2 _ rfl
      have g3 : DataW.trod enc Try.prog W base spare held n 31 [c3, c4, c5, c6] = some y3 := by simpa [k_b4] using hg 3 _ rfl
      have g4 : DataW.trod enc Try.prog W base spare held n 32 [c7, c8, c9, c10, c11, c12, c13, c14] = some y4 := by simpa [k_o8] using hg 4 _ rfl
      obtain ⟨z0, h0, -, b0⟩ := DataW.trod_int Try.underlying3 g0
      obtain ⟨z1, h1, -, b1⟩ := DataW.trod_int Try.underlying3 g1
      obtain ⟨z2, h2, -, b2⟩ := DataW.trod_int Try.underlying3 g2
      obtain ⟨z3, z4, z5, z6, h3, b3, b4, b5, b6⟩ := trod_b4 g3
      obtain ⟨z7, z8, z9, z10, z11, z12, z13, z14, h7, b7, b8, b9, b10, b11, b12, b13, b14⟩ := trod_o8 g4
      simp only [List.cons.injEq, and_true] at h0 h1 h2 h3 h7
      subst h0
      subst h1
      subst h2
      obtain ⟨rfl, rfl, rfl, rfl⟩ := h3
      obtain ⟨rfl, rfl, rfl, rfl, rfl, rfl, rfl, rfl⟩ := h7
      exact ⟨z0, z1, z2, z3, z4, z5, z6, z7, z8, z9, z10, z11, z12, z13, z14, rfl, i64_bounds b0, i64_bounds b1, i64_bounds b2, b3, b4, b5, b6, b7, b8, b9, b10, b11, b12, b13, b14⟩

set_option maxHeartbeats 4000000 in
set_option maxRecDepth 8000 in
theorem trod_pk {H : Type} {enc : TypeId × Value → H} {W : World} {base fuel : Nat} {cs : List Value} {x : DataW H × List MemPlace} {spare : Nat → Bool} {held : Bool}
    (hf : DataW.trod enc Try.prog W base spare held fuel 36 cs = some x) (hs : ∀ b, spare b = true) (hbk : Rows.uptoBulk x.1 ≤ 1048576) : ∃ (z0 : Int) (z1 : Int) (z2 : Int) (z3 : Int) (z4 : Int) (z5 : Int) (z6 : Int) (s7 : ByteArray) (z8 : Int) (z9 : Int) (z10 : Int) (s11 : ByteArray) (s12 : ByteArray) (z13 : Int) (z14 : Int) (z15 : Int) (z16 : Int) (s17 : ByteArray) (z18 : Int) (z19 : Int) (z20 : Int) (z21 : Int) (s22 : ByteArray) (A : Option Addr) (L : List ByteArray) (c : Nat) (z24 : Int) (z25 : Int) (z26 : Int) (z27 : Int) (z28 : Int) (z29 : Int) (z30 : Int) (z31 : Int) (z32 : Int) (z33 : Int) (z34 : Int) (z35 : Int) (z36 : Int) (z37 : Int) (z38 : Int) (z39 : Int) (z40 : Int) (z41 : Int) (z42 : Int), cs = [.int .i64 z0, .int .i64 z1, .int .i64 z2, .int .i64 z3, .int .i64 z4, .int .i64 z5, .int .i64 z6, .string s7, .int .i64 z8, .int .i64 z9, .int .i64 z10, .string s11, .string s12, .int .i64 z13, .int .i64 z14, .int .i64 z15, .int .i64 z16, .string s17, .int .i64 z18, .int .i64 z19, .int .i64 z20, .int .i64 z21, .string s22, .slice A L.length c, .int .i64 z24, .int .i64 z25, .int .i64 z26, .int .i64 z27, .int .i64 z28, .int .i64 z29, .int .i64 z30, .int .i64 z31, .int .i64 z32, .int .i64 z33, .int .i64 z34, .int .i64 z35, .int .i64 z36, .int .i64 z37, .int .i64 z38, .int .i64 z39, .int .i64 z40, .int .i64 z41, .int .i64 z42] ∧ RS W A L.length L ∧ (L.length ≤ 1048576 ∧ ∀ s ∈ L, s.size ≤ 1048576) ∧ s7.size ≤ 1048576 ∧ s11.size ≤ 1048576 ∧ s12.size ≤ 1048576 ∧ s17.size ≤ 1048576 ∧ s22.size ≤ 1048576 ∧ i64B z0 ∧ i64B z1 ∧ i64B z2 ∧ i64B z3 ∧ i64B z4 ∧ i64B z5 ∧ i64B z6 ∧ i64B z8 ∧ i64B z9 ∧ i64B z10 ∧ i64B z13 ∧ i64B z14 ∧ i64B z15 ∧ i64B z16 ∧ i64B z18 ∧ i64B z19 ∧ i64B z20 ∧ i64B z21 ∧ i64B z24 ∧ i64B z25 ∧ i64B z26 ∧ i64B z27 ∧ i64B z28 ∧ i64B z29 ∧ i64B z30 ∧ i64B z31 ∧ i64B z32 ∧ i64B z33 ∧ i64B z34 ∧ i64B z35 ∧ i64B z36 ∧ i64B z37 ∧ i64B z38 ∧ i64B z39 ∧ i64B z40 ∧ i64B z41 ∧ i64B z42 := by
  obtain ⟨xs, n, _, rfl, hl, hlen, hg⟩ := DataW.trod_struct Try.underlying36 hf
  have hbk' := bulk_agg hbk
  obtain ⟨c0, c1, c2, c3, c4, c5, c6, c7, c8, c9, c10, c11, c12, c13, c14, c15, c16, c17, c18, c19, c20, c21, c22, c23, c24, c25, c26, c27, c28, c29, c30, c31, c32, c33, c34, c35, c36, c37, c38, c39, c40, c41, c42, rfl⟩ := list43 (hl.trans k_pk)
  · skip
    match xs, hlen with
    | [y0, y1, y2, y3, y4, y5, y6, y7, y8, y9, y10, y11, y12, y13, y14, y15], _ =>
      have g0 : DataW.trod enc Try.prog W base spare held n 3 [c0] = some y0 := by simpa [k_int] using hg 0 _ rfl
      have g1 : DataW.trod enc Try.prog W base spare held n 3 [c1] = some y1 := by simpa [k_int] using hg 1 _ rfl
      have g2 : DataW.trod enc Try.prog W base spare held n 3 [c2] = some y2 := by simpa [k_int] using hg 2 _ rfl
      have g3 : DataW.trod enc Try.prog W base spare held n 3 [c3] = some y3 := by simpa [k_int] using hg 3 _ rfl
      have g4 : DataW.trod enc Try.prog W base spare held n 3 [c4] = some y4 := by simpa [k_int] using hg 4 _ rfl
      have g5 : DataW.trod enc Try.prog W base spare held n 3 [c5] = some y5 := by simpa [k_int] using hg 5 _ rfl
      have g6 : DataW.trod enc Try.prog W base spare held n 3 [c6] = some y6 := by simpa [k_int] using hg 6 _ rfl
      have g7 : DataW.trod enc Try.prog W base spare held n 9 [c7] = some y7 := by simpa [k_str] using hg 7 _ rfl
      have e7 : Rows.uptoBulk y7.1 ≤ 1048576 := hbk' y7 (by simp)
      have g8 : DataW.trod enc Try.prog W base spare held n 3 [c8] = some y8 := by simpa [k_int] using hg 8 _ rfl
      have g9 : DataW.trod enc Try.prog W base spare held n 3 [c9] = some y9 := by simpa [k_int] using hg 9 _ rfl
      have g10 : DataW.trod enc Try.prog W base spare held n 24 [c10, c11, c12, c13, c14, c15, c16, c17] = some y10 := by simpa [k_call] using hg 10 _ rfl
      have e10 : Rows.uptoBulk y10.1 ≤ 1048576 := hbk' y10 (by simp)
      have g11 : DataW.trod enc Try.prog W base spare held n 3 [c18] = some y11 := by simpa [k_int] using hg 11 _ rfl
      have g12 : DataW.trod enc Try.prog W base spare held n 25 [c19] = some y12 := by simpa [k_errno] using hg 12 _ rfl
      have g13 : DataW.trod enc Try.prog W base spare held n 30 [c20, c21, c22, c23, c24, c25, c26] = some y13 := by simpa [k_reply] using hg 13 _ rfl
      have e13 : Rows.uptoBulk y13.1 ≤ 1048576 := hbk' y13 (by simp)
      have g14 : DataW.trod enc Try.prog W base spare held n 3 [c27] = some y14 := by simpa [k_int] using hg 14 _ rfl
      have g15 : DataW.trod enc Try.prog W base spare held n 34 [c28, c29, c30, c31, c32, c33, c34, c35, c36, c37, c38, c39, c40, c41, c42] = some y15 := by simpa [k_node] using hg 15 _ rfl
      obtain ⟨z0, h0, -, b0⟩ := DataW.trod_int Try.underlying3 g0
      obtain ⟨z1, h1, -, b1⟩ := DataW.trod_int Try.underlying3 g1
      obtain ⟨z2, h2, -, b2⟩ := DataW.trod_int Try.underlying3 g2
      obtain ⟨z3, h3, -, b3⟩ := DataW.trod_int Try.underlying3 g3
      obtain ⟨z4, h4, -, b4⟩ := DataW.trod_int Try.underlying3 g4
      obtain ⟨z5, h5, -, b5⟩ := DataW.trod_int Try.underlying3 g5
      obtain ⟨z6, h6, -, b6⟩ := DataW.trod_int Try.underlying3 g6
      obtain ⟨s7, h7, rfl, -⟩ := DataW.trod_string Try.underlying9 g7
      have t7 : s7.size ≤ 1048576 := bulk_str e7
      obtain ⟨z8, h8, -, b8⟩ := DataW.trod_int Try.underlying3 g8
      obtain ⟨z9, h9, -, b9⟩ := DataW.trod_int Try.underlying3 g9
      obtain ⟨z10, s11, s12, z13, z14, z15, z16, s17, h10, t11, t12, t17, b10, b13, b14, b15, b16⟩ := trod_call g10 e10
      obtain ⟨z18, h18, -, b18⟩ := DataW.trod_int Try.underlying3 g11
      obtain ⟨z19, h19, -, b19⟩ := DataW.trod_int Try.underlying25 g12
      obtain ⟨z20, z21, s22, A, L, c, z24, z25, z26, h20, hr, hrs, t22, b20, b21, b24, b25, b26⟩ := trod_reply g13 hs e13
      obtain ⟨z27, h27, -, b27⟩ := DataW.trod_int Try.underlying3 g14
      obtain ⟨z28, z29, z30, z31, z32, z33, z34, z35, z36, z37, z38, z39, z40, z41, z42, h28, b28, b29, b30, b31, b32, b33, b34, b35, b36, b37, b38, b39, b40, b41, b42⟩ := trod_node g15
      simp only [List.cons.injEq, and_true] at h0 h1 h2 h3 h4 h5 h6 h7 h8 h9 h10 h18 h19 h20 h27 h28
      subst h0
      subst h1
      subst h2
      subst h3
      subst h4
      subst h5
      subst h6
      subst h7
      subst h8
      subst h9
      obtain ⟨rfl, rfl, rfl, rfl, rfl, rfl, rfl, rfl⟩ := h10
      subst h18
      subst h19
      obtain ⟨rfl, rfl, rfl, rfl, rfl, rfl, rfl⟩ := h20
      subst h27
      obtain ⟨rfl, rfl, rfl, rfl, rfl, rfl, rfl, rfl, rfl, rfl, rfl, rfl, rfl, rfl, rfl⟩ := h28
      exact ⟨z0, z1, z2, z3, z4, z5, z6, s7, z8, z9, z10, s11, s12, z13, z14, z15, z16, s17, z18, z19, z20, z21, s22, A, L, c, z24, z25, z26, z27, z28, z29, z30, z31, z32, z33, z34, z35, z36, z37, z38, z39, z40, z41, z42, rfl, hr, hrs, t7, t11, t12, t17, t22, i64_bounds b0, i64_bounds b1, i64_bounds b2, i64_bounds b3, i64_bounds b4, i64_bounds b5, i64_bounds b6, i64_bounds b8, i64_bounds b9, b10, b13, b14, b15, b16, i64_bounds b18, i64_bounds b19, b20, b21, b24, b25, b26, i64_bounds b27, b28, b29, b30, b31, b32, b33, b34, b35, b36, b37, b38, b39, b40, b41, b42⟩

set_option maxRecDepth 30000 in
theorem trod_packet {H : Type} {enc : TypeId × Value → H} {W : World} {base fuel : Nat} {cs : List Value} {x : DataW H × List MemPlace} {spare : Nat → Bool} {held : Bool}
    (hf : DataW.trod enc Try.prog W base spare held fuel 36 cs = some x) (hs : ∀ b, spare b = true) (hbk : Rows.uptoBulk x.1 ≤ 1048576) : ∃ (p : PK) (A : Option Addr) (c : Nat), cs = p.cells (.slice A p.names.length c) ∧ RS W A p.names.length p.names ∧ p.ok := by
  obtain ⟨z0, z1, z2, z3, z4, z5, z6, s7, z8, z9, z10, s11, s12, z13, z14, z15, z16, s17, z18, z19, z20, z21, s22, A, L, c, z24, z25, z26, z27, z28, z29, z30, z31, z32, z33, z34, z35, z36, z37, z38, z39, z40, z41, z42, rfl, hr, hrs, t7, t11, t12, t17, t22, b0, b1, b2, b3, b4, b5, b6, b8, b9, b10, b13, b14, b15, b16, b18, b19, b20, b21, b24, b25, b26, b27, b28, b29, b30, b31, b32, b33, b34, b35, b36, b37, b38, b39, b40, b41, b42⟩ := trod_pk hf hs hbk
  exact ⟨{ kind := z0, client := z1, epoch := z2, seq := z3, op := z4, at_ := z5, n := z6, data := s7, old := z8, new := z9, ckind := z10, path := s11, path2 := s12, flags := z13, cfd := z14, coff := z15, cn := z16, cdata := s17, ino := z18, errno := z19, rerrno := z20, rfd := z21, rdata := s22, names := L, ikind := z24, ilinks := z25, isize := z26, wrote := z27, nkind := z28, nlinks := z29, nsize := z30, b0 := z31, b1 := z32, b2 := z33, b3 := z34, o0 := z35, o1 := z36, o2 := z37, o3 := z38, o4 := z39, o5 := z40, o6 := z41, o7 := z42 }, A, c, rfl, hr, by constructor <;> assumption⟩
set_option maxRecDepth 8000 in
theorem open_packet20 {H : Type} {enc : TypeId × Value → H} {W : World} {b0 base : Nat} {v : Value} {d : DataW H} {p : List MemPlace} {spare : Nat → Bool} {held : Bool}
    (hv : Value.okWide Try.prog W .any b0 36 v) (h : DataW.Trod enc Try.prog W base spare held 36 v d p) (hs : ∀ b, spare b = true) (hbk : Rows.uptoBulk d ≤ 1048576) :
    ∃ (q : PK) (A : Option Addr) (c : Nat), v = .agg (q.cells (.slice A q.names.length c)).toArray ∧ RS W A q.names.length q.names ∧ q.ok := by
  obtain ⟨cs, rfl, hsz⟩ := okWide_struct Try.underlying36 hv
  obtain ⟨fuel, hf⟩ := h
  obtain ⟨q, A, c, h1, h2, h3⟩ := trod_packet (cs := cs.toList) (x := (d, p)) (by simpa [Value.cells] using hf) hs hbk
  exact ⟨q, A, c, by rw [← h1], h2, h3⟩

set_option maxRecDepth 8000 in
theorem trod_ints {H : Type} {enc : TypeId × Value → H} {W : World} {base fuel : Nat} {cs : List Value} {x : DataW H × List MemPlace} {spare : Nat → Bool} {held : Bool}
    (hf : DataW.trod enc Try.prog W base spare held fuel 40 cs = some x) (hs : ∀ b, spare b = true) :
    ∃ (a : Option Addr) (pk : List Int) (c : Nat), cs = [.slice a pk.length c] ∧ RI W a pk.length pk ∧ pk.length ≤ c ∧ ∀ p ∈ pk, -9223372036854775808 ≤ p ∧ p ≤ 9223372036854775807 := by
  rcases open_ints Try.underlying40 Try.underlying3 (by kernel_rfl) hf with ⟨hcs, _⟩ | ⟨x, l, c, zs, hcs, _, hl, hm, hz, _, hcell, hwz⟩
  · exact ⟨none, [], 0, hcs, ⟨rfl, rfl, fun h => by simp at h⟩, Nat.le_refl _, fun p hp => by simp at hp⟩
  · have hzc : zs.length = c := by simpa [hs] using hz
    have hlen : (zs.take l).length = l := by simp; omega
    refine ⟨some x, zs.take l, c, by rw [hlen, hcs], ⟨rfl, by simp [ics], fun h0 => ?_⟩, by omega, fun p hp => i64_bounds (hwz p (List.mem_of_mem_take hp))⟩
    rw [hlen] at h0
    obtain ⟨b, off, spot⟩ := x
    have hc0 := hcell 0 (by omega)
    have hspot : spot = none := by simpa [Addr.add] using World.cell?_spot hc0
    subst hspot
    have hlt := World.block_lt_of_cell? W _ hc0
    refine ⟨b, off, rfl, by simpa [Addr.add] using hlt, fun j u hu => ?_⟩
    rw [ics, List.getElem?_map] at hu
    by_cases hj : j < l
    · rw [List.getElem?_take, if_pos hj, List.getElem?_eq_getElem (by omega)] at hu
      simp only [Option.map_some, Option.some.injEq] at hu
      have hc := hcell j (by omega)
      rw [Addr.add_lit, List.getD_eq_getElem?_getD, List.getElem?_eq_getElem (by omega)] at hc
      rw [hc, ← hu]
      rfl
    · rw [List.getElem?_eq_none (by rw [List.length_take]; omega)] at hu
      cases hu
theorem list3 {l : List Value} (h : l.length = 3) : ∃ a b c, l = [a, b, c] := by
  match l, h with
  | [a, b, c], _ => exact ⟨a, b, c, rfl⟩
set_option maxRecDepth 8000 in
theorem trod_dq {H : Type} {enc : TypeId × Value → H} {W : World} {base fuel : Nat} {cs : List Value} {x : DataW H × List MemPlace} {spare : Nat → Bool} {held : Bool}
    (hf : DataW.trod enc Try.prog W base spare held fuel 42 cs = some x) (hs : ∀ b, spare b = true) (hbk : Rows.uptoBulk x.1 ≤ 1048576) : ∃ e : Dq, cs = e.cells ∧ e.ok W := by
  obtain ⟨xs, n, _, rfl, hl, hlen, hg⟩ := DataW.trod_struct Try.underlying42 hf
  have hbk' := bulk_agg hbk
  have hl46 : cs.length = 46 := hl.trans k_dq
  obtain ⟨a, b, c, h3⟩ := list3 (l := cs.drop 43) (by rw [List.length_drop]; omega)
  have h4 : cs.drop 44 = [b, c] := by rw [show 44 = 43 + 1 from rfl, ← List.drop_drop, h3]; rfl
  have h5 : cs.drop 45 = [c] := by rw [show 45 = 43 + 2 from rfl, ← List.drop_drop, h3]; rfl
  match xs, hlen with
  | [y0, y1, y2, y3], _ =>
    have g0 : DataW.trod enc Try.prog W base spare held n 36 (cs.take 43) = some y0 := by simpa [k_pk] using hg 0 _ rfl
    have g1 : DataW.trod enc Try.prog W base spare held n 4 [a] = some y1 := by simpa [k_bool, h3] using hg 1 _ rfl
    have g2 : DataW.trod enc Try.prog W base spare held n 4 [b] = some y2 := by simpa [k_bool, h4] using hg 2 _ rfl
    have g3 : DataW.trod enc Try.prog W base spare held n 40 [c] = some y3 := by simpa [k_ints, h5] using hg 3 _ rfl
    obtain ⟨p, A, ca, hp, hr, hok⟩ := trod_packet g0 hs (hbk' y0 (by simp))
    obtain ⟨u, hu, -⟩ := DataW.trod_bool Try.underlying4 g1
    obtain ⟨v, hv, -⟩ := DataW.trod_bool Try.underlying4 g2
    obtain ⟨Q, pk, cq, hq, hri, hcq, hsm⟩ := trod_ints g3 hs
    simp only [List.cons.injEq, and_true] at hu hv hq
    subst hu hv hq
    refine ⟨{ p := p, set := u, crash := v, pk := pk, A := A, ca := ca, Q := Q, cq := cq }, ?_, ⟨hok, hr, hri, hcq, hsm⟩⟩
    rw [← List.take_append_drop 43 cs, hp, h3]
    rfl
set_option maxRecDepth 8000 in
theorem open_dqs {H : Type} {enc : TypeId × Value → H} {W : World} {b0 base : Nat} {v : Value} {d : DataW H} {p : List MemPlace} {spare : Nat → Bool} {held : Bool}
    (hv : Value.okWide Try.prog W .any b0 22 v) (h : DataW.Trod enc Try.prog W base spare held 22 v d p) (hs : ∀ b, spare b = true) (hbk : Rows.uptoBulk d ≤ 1048576) :
    ∃ (a : Option Addr) (L : List Dq) (c : Nat), v = .slice a L.length c ∧ DD W a L.length L := by
  obtain ⟨a, len, cap, rfl⟩ := okWide_slice Try.underlying22 hv
  obtain ⟨fuel, hf⟩ := h
  rcases Deep.open_slice Try.underlying22 hf with ⟨hcs, _⟩ | ⟨x, l, c, m, n, D, Pl, hcs, _, hl, hm, hmm, hdx, hx⟩
  · simp [Value.cells] at hcs
    obtain ⟨rfl, rfl, rfl⟩ := hcs
    exact ⟨none, [], 0, rfl, ⟨rfl, fun e he => by simp at he, fun h0 => by simp at h0⟩⟩
  · simp [Value.cells] at hcs
    obtain ⟨rfl, rfl, rfl⟩ := hcs
    have hmc : m = cap := by rw [hmm, hs]; rfl
    have hd := (Prod.mk.inj hdx).1
    rw [hd] at hbk
    have hbs := bulk_slice hbk
    have hel : ∀ i, i < len → ∃ r : Dq, r.ok W ∧ ∀ j, j < 46 → W.cell? ((x.add (i * 46)).add j) = (r.cells)[j]? := by
      intro i hi
      obtain ⟨cs', h1, ht⟩ := hx i (by omega)
      rw [k_dq] at h1
      obtain ⟨r, rfl, hok⟩ := trod_dq ht hs (hbs.2 _ (List.mem_map_of_mem (List.mem_range.2 hi)))
      exact ⟨r, hok, (World.cells?_some h1).2.2⟩
    obtain ⟨L, hL, hp⟩ := choose_list hel
    refine ⟨some x, L, cap, by rw [hL], ⟨rfl, fun e he => ?_, fun h0 => ?_⟩⟩
    · obtain ⟨i, hi, rfl⟩ := List.getElem_of_mem he
      exact (hp i hi).1
    · have hlc : ∀ e : Dq, e.cells.length = 46 := fun e => rfl
      have hc0 := (hp 0 h0).2 0 (by omega)
      obtain ⟨b, off, spot⟩ := x
      have hspot : spot = none := by
        have hc1 : W.cell? ((Addr.add ⟨b, off, spot⟩ (0 * 46)).add 0) = some (.int .i64 (L[0]'h0).p.kind) := hc0
        simpa [Addr.add] using World.cell?_spot hc1
      subst hspot
      have hlt := World.block_lt_of_cell? W _ (show W.cell? ((Addr.add ⟨b, off, none⟩ (0 * 46)).add 0) = some (.int .i64 (L[0]'h0).p.kind) from hc0)
      refine ⟨b, off, rfl, by simpa [Addr.add] using hlt, fun i hi j v hv => ?_⟩
      have hj : j < 46 := by
        rcases Nat.lt_or_ge j 46 with h | h
        · exact h
        · rw [List.getElem?_eq_none (by rw [hlc]; exact h)] at hv
          cases hv
      have := (hp i hi).2 j hj
      rw [Addr.add_lit, Addr.add_lit] at this
      rw [this, hv]
set_option maxRecDepth 8000 in
theorem open_dq {H : Type} {enc : TypeId × Value → H} {W : World} {b0 base : Nat} {v : Value} {d : DataW H} {p : List MemPlace} {spare : Nat → Bool} {held : Bool}
    (hv : Value.okWide Try.prog W .any b0 42 v) (h : DataW.Trod enc Try.prog W base spare held 42 v d p) (hs : ∀ b, spare b = true) (hbk : Rows.uptoBulk d ≤ 1048576) :
    ∃ e : Dq, v = .agg e.cells.toArray ∧ e.ok W := by
  obtain ⟨cs, rfl, hsz⟩ := okWide_struct Try.underlying42 hv
  obtain ⟨fuel, hf⟩ := h
  obtain ⟨e, h1, h2⟩ := trod_dq (cs := cs.toList) (x := (d, p)) (by simpa [Value.cells] using hf) hs hbk
  exact ⟨e, by rw [← h1], h2⟩
end Go.Proofs.Ytdlcpfgogjcciaa
