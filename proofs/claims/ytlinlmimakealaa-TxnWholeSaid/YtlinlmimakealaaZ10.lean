/- A block of one cell. The walks of package crc (layer 2). The walk of crc.Sum. The walks of the reference of layer 2. No statement of the seat is proved here. -/
import Derived.Test.YtlinlmimakealaaZ01
import Derived.Test.YtlinlmimakealaaZ02
namespace Go.Proofs.Ytlinlmimakealaa
open Go.RowKit

/-- Block g is one cell of type t, that holds v; it is not frozen. -/
def One (w : World) (g : Nat) (t : TypeId) (v : Value) : Prop := w.heap[g]? = some (.cells #[v] t (0, 0))
section
variable {w w' : World} {g : Nat} {t : TypeId} {v u : Value}
theorem One.lt (h : One w g t v) : g < w.heap.size := (Array.getElem?_eq_some_iff.1 h).1
theorem One.cell (h : One w g t v) : w.cell? ⟨g, 0, none⟩ = some v := by
  rw [cell_of_row w g 0 #[v] t (0, 0) h]; rfl
theorem One.frozen (h : One w g t v) : w.frozen? ⟨g, 0, none⟩ = false := frozen_of_row w g 0 #[v] t h
theorem One.new (w : World) (t : TypeId) (v : Value) : One (w.alloc (.cells #[v] t)) w.heap.size t v := heap_alloc_new w _
theorem One.set (h : One w g t v) (u : Value) : One (w.setCell ⟨g, 0, none⟩ u) g t u := by
  have := heap_setCell_same w g 0 #[v] t u h
  simpa [One] using this
theorem One.grow (w : World) (g : Nat) (u : Value) : w.grownBy (w.setCell ⟨g, 0, none⟩ u) (some g) :=
  ⟨rfl, rfl, rfl, by simp, fun k _ hk => heap_setCell_other w ⟨g, 0, none⟩ k u (fun e => hk (by simp [e]))⟩
theorem One.below {B : Nat} (h : One w g t v) (hb : Below B w w') (hg : g < B) : One w' g t v := (hb.block g hg).trans h
theorem One.grown {row : Option Nat} (h : One w g t v) (hb : w.grownBy w' row) (hg : some g ≠ row) : One w' g t v := (hb.block g h.lt hg).trans h
theorem One.drewN (h : One w g t v) (n : Nat) : One (w.drewN n) g t v := h
theorem One.alloc (h : One w g t v) (o : Obj) : One (w.alloc o) g t v := (Below.heap_alloc w o g h.lt).trans h
end
theorem RB.grownBy {w w' : World} {B g : Nat} {A : Option Addr} {bs : List UInt8} (h : RB w B A bs) (hg : w.grownBy w' (some g)) (hB : B ≤ w.heap.size) (hne : ∀ a, A = some a → a.block ≠ g) : RB w' B A bs := by
  refine ⟨h.1, fun hn => ?_⟩
  obtain ⟨b, o, e, hb, hc⟩ := h.2 hn
  refine ⟨b, o, e, hb, fun j u hu => ?_⟩
  rw [← hc j u hu]
  exact World.cell?_of_block (hg.block b (by omega) (fun e2 => hne _ e (by injection e2)))
end Go.Proofs.Ytlinlmimakealaa

namespace Go.Proofs.Ytlinlmimakealaa
open Go.RowKit

theorem u32_and1 (X : Nat) (h : X < 2 ^ 32) : bits .and .u32 (X : Int) 1 = ((X % 2 : Nat) : Int) := by
  have := u32_and_nat X 1 (by omega) (by omega)
  rw [nat_mask1] at this
  exact this
theorem u32_step_odd (X : Nat) (h : X < 2 ^ 32) (ho : X % 2 = 1) : bits .xor .u32 ((X : Int) / 2) 3988292384 = ((crc1 X : Nat) : Int) := by
  have := u32_xor_nat (X / 2) 3988292384 (by omega) (by omega)
  unfold crc1 crcPoly
  rw [if_pos ho]
  simpa using this
theorem u32_step_even (X : Nat) (ho : ¬ X % 2 = 1) : (X : Int) / 2 = ((crc1 X : Nat) : Int) := by
  unfold crc1
  rw [if_neg ho]
  simp

/-- The frame of 'byte' at its label, in round k. -/
structure ByteJ (g : Nat) (c : UInt8) (x : Nat) (w : World) (a : Act) (w' : World) : Prop where
  out : ∃ (k : Nat) (u5 u6 u7 u8 u9 u10 u11 u12 u13 u14 u15 u16 u17 u18 u19 u20 u21 u22 u23 u24 u25 u26 u27 u28 u29 u30 u31 u32 u33 u34 u35 u36 u37 u38 u39 : Value), a = { tmps := #[.pointer (some ⟨g, 0, none⟩), .int .u8 (c.toNat : Int), undef, undef, .int .i64 k, u5, u6, u7, u8, u9, u10, u11, u12, u13, u14, u15, u16, u17, u18, u19, u20, u21, u22, u23, u24, u25, u26, u27, u28, u29, u30, u31, u32, u33, u34, u35, u36, u37, u38, u39], defers := [] } ∧ k < 8 ∧ One w' g 107 (.int .u32 ((crcI x k : Nat) : Int)) ∧ w.grownBy w' (some g)

set_option maxRecDepth 100000 in
theorem crc_byte (g r : Nat) (c : UInt8) (w : World) (h : One w g 107 (.int .u32 (r : Int))) (hr : r < 2 ^ 32) :
    Calls Try.prog 73 #[.pointer (some ⟨g, 0, none⟩), .int .u8 (c.toNat : Int)] w fun e w' => e = .returned (.tuple #[]) ∧ One w' g 107 (.int .u32 (crcByte r c : Nat)) ∧ w.grownBy w' (some g) := by
  have hc := h.cell
  have hf := h.frozen
  have hcl := c.toNat_lt
  have hx : bits .xor .u32 (r : Int) (c.toNat : Int) = ((r ^^^ c.toNat : Nat) : Int) := u32_xor_nat r c.toNat (by omega) (by omega)
  have hxl : r ^^^ c.toNat < 2 ^ 32 := Nat.xor_lt_two_pow hr (by omega)
  have hwr : IntKind.u32.wrap (c.toNat : Int) = (c.toNat : Int) := by rw [IntKind.wrap_u32]; omega
  have hset := h.set (.int .u32 ((r ^^^ c.toNat : Nat) : Int))
  have hgr := One.grow w g (.int .u32 ((r ^^^ c.toNat : Nat) : Int))
  have hfin : crcByte r c = crcI (r ^^^ c.toNat) 8 := rfl
  rw [hfin]
  obtain ⟨x, hxe⟩ : ∃ x, x = r ^^^ c.toNat := ⟨_, rfl⟩
  rw [← hxe] at hx hxl hset hgr ⊢
  clear hxe hfin
  have HS := Lib.hid hset
  have HG := Lib.hid hgr
  have HX := Lib.hid hxl
  clear hset hgr h hr hxl
  have pass : ∀ (k : Nat) (w1 : World) (X : Nat), X = crcI x k → One w1 g 107 (.int .u32 (X : Int)) → w1.cell? ⟨g, 0, none⟩ = some (.int .u32 (X : Int)) ∧ w1.frozen? ⟨g, 0, none⟩ = false ∧ X < 2 ^ 32 ∧ One (w1.setCell ⟨g, 0, none⟩ (.int .u32 ((crc1 X : Nat) : Int))) g 107 (.int .u32 ((crcI x (k + 1) : Nat) : Int)) := by
    intro k w1 X hX h1
    refine ⟨h1.cell, h1.frozen, ?_, ?_⟩
    · rw [hX]; exact crcI_lt HX.out k
    · rw [crcI, ← hX]; exact h1.set _
  go_enter Try.func73, Try.ntmps73
  go_wp2
  refine wp_scope_jumps 0 (ByteJ g c x w) (fun a' _ => 8 - (intOf (a'.tmps.getD 4 undef)).toNat) rfl ?_ ?_
  · go_wp2
    go_step3
    obtain ⟨w1, hw1⟩ : ∃ w1, w1 = w.setCell ⟨g, 0, none⟩ (.int .u32 (x : Int)) := ⟨_, rfl⟩
    rw [← hw1] at HS HG ⊢
    obtain ⟨hc1, hf1, hXl, hn⟩ := pass 0 w1 x rfl HS.out
    have HG2 := HG.out
    clear hw1 HS HG hx hwr hc hf
    have hand := u32_and1 x hXl
    by_cases ho : x % 2 = 1
    · have hst := u32_step_odd x hXl ho
      rw [ho] at hand
      clear ho
      go_wp2
      go_step3
      exact ⟨rfl, ⟨1, _, _, _, _, _, _, _, _, _, _, _, _, _, _, _, _, _, _, _, _, _, _, _, _, _, _, _, _, _, _, _, _, _, _, _, rfl, by omega, hn, HG2.trans (One.grow _ _ _)⟩⟩
    · have hst := u32_step_even x ho
      have ho2 : x % 2 = 0 := by omega
      rw [ho2] at hand
      clear ho ho2
      go_wp2
      go_step3
      exact ⟨rfl, ⟨1, _, _, _, _, _, _, _, _, _, _, _, _, _, _, _, _, _, _, _, _, _, _, _, _, _, _, _, _, _, _, _, _, _, _, _, rfl, by omega, hn, HG2.trans (One.grow _ _ _)⟩⟩
  · rintro a' w1 ⟨⟨k, u5, u6, u7, u8, u9, u10, u11, u12, u13, u14, u15, u16, u17, u18, u19, u20, u21, u22, u23, u24, u25, u26, u27, u28, u29, u30, u31, u32, u33, u34, u35, u36, u37, u38, u39, rfl, hk, h1, HG2⟩⟩
    obtain ⟨hc1, hf1, hXl, hn⟩ := pass k w1 (crcI x k) rfl h1
    clear h1 HS HG hx hwr hc hf
    obtain ⟨X, hX⟩ : ∃ X, X = crcI x k := ⟨_, rfl⟩
    rw [← hX] at hc1 hXl hn
    clear hX
    have hand := u32_and1 X hXl
    by_cases ho : X % 2 = 1
    · have hst := u32_step_odd X hXl ho
      rw [ho] at hand
      clear ho
      go_wp2
      · go_step3
        refine ⟨rfl, ⟨⟨k + 1, _, _, _, _, _, _, _, _, _, _, _, _, _, _, _, _, _, _, _, _, _, _, _, _, _, _, _, _, _, _, _, _, _, _, _, rfl, by omega, hn, HG2.trans (One.grow _ _ _)⟩⟩, ?_⟩
        simp [intOf]; omega
      · simp only [Exit.jump]
        go_end0
        obtain rfl : k = 7 := by omega
        exact ⟨rfl, hn, HG2.trans (One.grow _ _ _)⟩
    · have hst := u32_step_even X ho
      have ho2 : X % 2 = 0 := by omega
      rw [ho2] at hand
      clear ho ho2
      go_wp2
      · go_step3
        refine ⟨rfl, ⟨⟨k + 1, _, _, _, _, _, _, _, _, _, _, _, _, _, _, _, _, _, _, _, _, _, _, _, _, _, _, _, _, _, _, _, _, _, _, _, rfl, by omega, hn, HG2.trans (One.grow _ _ _)⟩⟩, ?_⟩
        simp [intOf]; omega
      · simp only [Exit.jump]
        go_end0
        obtain rfl : k = 7 := by omega
        exact ⟨rfl, hn, HG2.trans (One.grow _ _ _)⟩

/-- (*Hasher).Add. -/
theorem crc_add (g r : Nat) (A : Option Addr) (bs : List UInt8) (n c : Nat) (hn : n = bs.length) (B : Nat) (w : World) (h : One w g 107 (.int .u32 (r : Int))) (hr : r < 2 ^ 32) (hb : RB w B A bs) (hB : B ≤ w.heap.size) (hne : ∀ a, A = some a → a.block ≠ g) (hl : bs.length ≤ 1073741824) :
    Calls Try.prog 59 #[.pointer (some ⟨g, 0, none⟩), .slice A n c] w fun e w' => e = .returned (.tuple #[]) ∧ One w' g 107 (.int .u32 (crcMore r bs : Nat)) ∧ w.grownBy w' (some g) := by
  subst hn
  have HNE := Lib.hid hne
  have HR := Lib.hid hr
  clear hne hr
  go_enter Try.func59, Try.ntmps59
  go_wp2_with fail
  go_loopw [8] (fun i wr => ∃ k : Nat, k ≤ bs.length ∧ i = .int .i64 k ∧ One wr g 107 (.int .u32 ((crcMore r (bs.take k) : Nat) : Int)) ∧ w.grownBy wr (some g)) (fun i _ => bs.length - (intOf i).toNat)
  case atStart => exact ⟨0, Nat.zero_le _, rfl, by rw [List.take_zero]; exact h, World.grownBy.refl w _⟩
  case round =>
    obtain ⟨k, hk, rfl, hone, hg⟩ := hrel
    by_cases hlt : k < bs.length
    · have hbr := hb.grownBy hg hB HNE.out
      obtain ⟨b, o, rfl, -, hc⟩ := hbr.at_ hlt
      have hcr := crcMore_lt HR.out (bs.take k)
      have hsn : crcByte (crcMore r (bs.take k)) (bs[k]'hlt) = crcMore r (bs.take (k + 1)) := by
        rw [List.take_succ_eq_append_getElem hlt, crcMore_snoc]
      obtain ⟨u, hu⟩ : ∃ u, u = bs[k]'hlt := ⟨_, rfl⟩
      rw [← hu] at hc hsn
      have HS := Lib.hid hsn
      clear hsn hu hb hbr
      go_wp2_with fail
      refine (crc_byte g _ u wr hone hcr).mono ?_
      rintro e w2 ⟨rfl, hone2, hg2⟩
      rw [HS.out] at hone2
      go_wp2_with fail
      go_roundw
      case rel => exact ⟨k + 1, by omega, by go_num, hone2, hg.trans hg2⟩
      case measure => simp [intOf]; omega
    · obtain rfl : k = bs.length := by omega
      rw [List.take_of_length_le (Nat.le_refl _)] at hone
      go_wp2
      go_end0
      exact ⟨rfl, hone, hg⟩

theorem crc_add' (g r : Nat) (A : Option Addr) (bs : List UInt8) (n c : Nat) (hn : n = bs.length) (B : Nat) (w : World) (h : One w g 107 (.int .u32 (r : Int))) (hr : r < 2 ^ 32) (hb : RB w B A bs) (hB : B ≤ w.heap.size) (hne : ∀ a, A = some a → 0 < bs.length → a.block ≠ g) (hl : bs.length ≤ 1073741824) :
    Calls Try.prog 59 #[.pointer (some ⟨g, 0, none⟩), .slice A n c] w fun e w' => e = .returned (.tuple #[]) ∧ One w' g 107 (.int .u32 (crcMore r bs : Nat)) ∧ w.grownBy w' (some g) := by
  by_cases h0 : 0 < bs.length
  · exact crc_add g r A bs n c hn B w h hr hb hB (fun a ha => hne a ha h0) hl
  · have e : bs = [] := List.eq_nil_of_length_eq_zero (by omega)
    subst e
    simp only [List.length_nil] at hn
    subst hn
    go_enter Try.func59, Try.ntmps59
    go_wp2_with fail
    go_loop [8] (fun i => i = .int .i64 0) (fun _ => 0)
    case atStart => rfl
    case round =>
      subst hrel
      go_wp2
      go_end0
      exact ⟨rfl, h, World.grownBy.refl w _⟩

/-- crc.New. -/
theorem crc_new (w : World) :
    Calls Try.prog 58 #[] w fun e w' => e = .returned (.pointer (some ⟨w.heap.size, 0, none⟩)) ∧ One w' w.heap.size 107 (.int .u32 4294967295) ∧ Below w.heap.size w w' ∧ w'.heap.size = w.heap.size + 1 := by
  go_enter Try.func58, Try.ntmps58
  go_wp2
  go_ret
  exact ⟨rfl, One.new w _ _, (Below.refl _ _).alloc (Nat.le_refl _) _, by simp⟩

/-- (*Hasher).Sum. -/
theorem crc_hsum (g r : Nat) (w : World) (h : One w g 107 (.int .u32 (r : Int))) (hr : r < 2 ^ 32) :
    Calls Try.prog 60 #[.pointer (some ⟨g, 0, none⟩)] w fun e w' => e = .returned (.int .u32 (4294967295 - r : Nat)) ∧ w = w' := by
  have hc := h.cell
  go_enter Try.func60, Try.ntmps60
  go_wp2
  go_ret
  refine ⟨ret_int ?_, rfl⟩
  have e : IntKind.u32.max = ((4294967295 : Nat) : Int) := by decide
  rw [e, u32_xor_nat _ _ (by omega) (by omega), Nat.xor_comm, xor_ones hr]

end Go.Proofs.Ytlinlmimakealaa

namespace Go.Proofs.Ytlinlmimakealaa
open Go.RowKit

/-- crc.Sum. -/
theorem crc_sum (A : Option Addr) (bs : List UInt8) (n c : Nat) (hn : n = bs.length) (w : World) (hb : RB w w.heap.size A bs) (hl : bs.length ≤ 1073741824) :
    Calls Try.prog 34 #[.slice A n c] w fun e w' => e = .returned (.int .u32 (crcN bs : Nat)) ∧ Below w.heap.size w w' := by
  subst hn
  have hne : ∀ a, A = some a → 0 < bs.length → a.block ≠ w.heap.size := by
    intro a ha h0
    obtain ⟨b, o, e, hlt, -⟩ := hb.all h0
    rw [ha] at e
    injection e with e
    subst e
    show b ≠ _
    omega
  have HNE := Lib.hid hne
  clear hne
  go_enter Try.func34, Try.ntmps34
  go_wp2_with fail
  refine (crc_new w).mono ?_
  rintro e w1 ⟨rfl, hone, hb1, -⟩
  have hz := hb1.size
  have hrd : RB w1 w.heap.size A bs := hb.below hb1
  obtain ⟨r0, hr0⟩ : ∃ r0 : Nat, r0 = 4294967295 := ⟨_, rfl⟩
  have hr0l : r0 < 2 ^ 32 := by omega
  have hone0 : One w1 w.heap.size 107 (.int .u32 (r0 : Int)) := by
    have e : (r0 : Int) = 4294967295 := by omega
    rw [e]; exact hone
  have hfin : 4294967295 - crcMore r0 bs = crcN bs := by rw [hr0, crcN]
  have hmr := crcMore_lt hr0l bs
  have HF := Lib.hid hfin
  clear hfin hr0 hone
  go_wp2_with fail
  refine (crc_add' w.heap.size r0 A bs bs.length c rfl w.heap.size w1 hone0 hr0l hrd hz HNE.out hl).mono ?_
  rintro e w2 ⟨rfl, hone2, hg2⟩
  clear hone0
  go_wp2_with fail
  refine (crc_hsum w.heap.size _ w2 hone2 hmr).mono ?_
  rintro e w3 ⟨rfl, rfl⟩
  rw [HF.out]
  clear hone2 hmr
  go_wp2_with fail
  go_ret
  exact ⟨rfl, hb1.grown hg2 hz (fun k hk => by injection hk with hk; omega)⟩
end Go.Proofs.Ytlinlmimakealaa

namespace Go.Proofs.Ytlinlmimakealaa
open Go.RowKit

theorem plus_step (x a b k : Nat) (hx : x = a ^^^ b) : x % 2 ^ (k + 1) = x % 2 ^ k + 2 ^ k * ((a / 2 ^ k % 2 + b / 2 ^ k % 2) % 2) := by
  subst hx
  rw [Nat.mod_pow_succ, Nat.xor_div_two_pow, xor_mod2]

theorem ref2_plus (a b : Nat) (ha : a < 2 ^ 32) (hb : b < 2 ^ 32) (w : World) :
    Calls Try.prog 89 #[.int .i64 (a : Int), .int .i64 (b : Int)] w fun e w' => e = .returned (.int .i64 ((a ^^^ b : Nat) : Int)) ∧ w = w' := by
  have hlt := Nat.xor_lt_two_pow ha hb
  obtain ⟨x, hx⟩ : ∃ x, x = a ^^^ b := ⟨_, rfl⟩
  rw [← hx] at hlt ⊢
  have HX := Lib.hid hx
  clear hx
  go_enter Try.func89, Try.ntmps89
  go_wp2
  go_loop [0, 1, 5, 6, 7] (fun p q n r i => ∃ k : Nat, k ≤ 32 ∧ i = .int .i64 k ∧ p = .int .i64 ((a / 2 ^ k : Nat) : Int) ∧ q = .int .i64 ((b / 2 ^ k : Nat) : Int) ∧ n = .int .i64 ((x % 2 ^ k : Nat) : Int) ∧ r = .int .i64 ((2 ^ k : Nat) : Int)) (fun _ _ _ _ i => 32 - (intOf i).toNat)
  case atStart => exact ⟨0, by omega, rfl, by simp, by simp, by simp [Nat.mod_one], rfl⟩
  case round =>
    obtain ⟨k, hk, rfl, rfl, rfl, rfl, rfl⟩ := hrel
    by_cases hlt32 : k < 32
    · have hst := plus_step x a b k HX.out
      have ha1 : a / 2 ^ (k + 1) = a / 2 ^ k / 2 := by rw [Nat.pow_succ, Nat.div_div_eq_div_mul]
      have hb1 : b / 2 ^ (k + 1) = b / 2 ^ k / 2 := by rw [Nat.pow_succ, Nat.div_div_eq_div_mul]
      have hp1 : 2 ^ (k + 1) = 2 ^ k * 2 := Nat.pow_succ ..
      have hp : 2 ^ k ≤ 2 ^ 31 := Nat.pow_le_pow_right (by omega) (by omega)
      have hpa : a / 2 ^ k ≤ a := Nat.div_le_self _ _
      have hpb : b / 2 ^ k ≤ b := Nat.div_le_self _ _
      have hn : x % 2 ^ k < 2 ^ k := Nat.mod_lt _ (Nat.pow_pos (by omega))
      obtain ⟨p, hpe⟩ : ∃ p, p = a / 2 ^ k := ⟨_, rfl⟩
      obtain ⟨q, hqe⟩ : ∃ q, q = b / 2 ^ k := ⟨_, rfl⟩
      obtain ⟨n, hne⟩ : ∃ n, n = x % 2 ^ k := ⟨_, rfl⟩
      obtain ⟨r, hre⟩ : ∃ r, r = 2 ^ k := ⟨_, rfl⟩
      rw [← hpe] at hst ha1 hpa
      rw [← hqe] at hst hb1 hpb
      rw [← hne] at hst hn
      rw [← hre] at hst hp1 hp hn
      rw [← hpe, ← hqe, ← hne, ← hre]
      have HA := Lib.hid ha1
      have HB := Lib.hid hb1
      have HP := Lib.hid hp1
      clear hpe hqe hne hre ha1 hb1 hp1
      by_cases he : p % 2 = q % 2
      · have heq : ((p : Int) % 2 != (q : Int) % 2) = false := by simp; omega
        have hst2 : x % 2 ^ (k + 1) = n := by have h2 : (p % 2 + q % 2) % 2 = 0 := by { omega }; rw [hst, h2]; simp
        have HS := Lib.hid hst2
        clear hst hst2 he
        go_wp2
        go_round
        case rel => exact ⟨k + 1, by omega, by go_num, by rw [HA.out]; go_num, by rw [HB.out]; go_num, by rw [HS.out], by rw [HP.out]; go_num⟩
        case measure => simp [intOf]; omega
      · have heq : ((p : Int) % 2 != (q : Int) % 2) = true := by simp; omega
        have hst2 : x % 2 ^ (k + 1) = n + r := by have h2 : (p % 2 + q % 2) % 2 = 1 := by { omega }; rw [hst, h2]; simp
        have HS := Lib.hid hst2
        clear hst hst2 he
        go_wp2
        go_round
        case rel => exact ⟨k + 1, by omega, by go_num, by rw [HA.out]; go_num, by rw [HB.out]; go_num, by rw [HS.out]; go_num, by rw [HP.out]; go_num⟩
        case measure => simp [intOf]; omega
    · obtain rfl : k = 32 := by omega
      have hm : x % 2 ^ 32 = x := Nat.mod_eq_of_lt hlt
      rw [hm]
      clear hm
      go_wp2
      go_ret
      exact ⟨rfl, rfl⟩

theorem ref2_more (r : Nat) (hr : r < 2 ^ 32) (A : Option Addr) (bs : List UInt8) (n c : Nat) (hn : n = bs.length) (B : Nat) (w : World) (hb : RB w B A bs) (hl : bs.length ≤ 1073741824) :
    Calls Try.prog 87 #[.int .i64 (r : Int), .slice A n c] w fun e w' => e = .returned (.int .i64 (crcMore r bs : Nat)) ∧ w = w' := by
  subst hn
  go_enter Try.func87, Try.ntmps87
  go_wp2_with fail
  go_loop [0, 5] (fun q i => ∃ k : Nat, k ≤ bs.length ∧ i = .int .i64 k ∧ q = .int .i64 ((crcMore r (bs.take k) : Nat) : Int)) (fun _ i => bs.length - (intOf i).toNat)
  case atStart => exact ⟨0, Nat.zero_le _, rfl, by rw [List.take_zero]; rfl⟩
  case round =>
    obtain ⟨k, hk, rfl, rfl⟩ := hrel
    have hq := crcMore_lt hr (bs.take k)
    by_cases hlt : k < bs.length
    · obtain ⟨b, o, rfl, -, hc⟩ := hb.at_ hlt
      have hsn : crcMore r (bs.take (k + 1)) = crcBits (crcMore r (bs.take k)) (bs[k]'hlt).toNat 8 := by
        rw [List.take_succ_eq_append_getElem hlt, crcMore_snoc, crcByte_bits]
      obtain ⟨u, hu⟩ : ∃ u, u = (bs[k]'hlt).toNat := ⟨_, rfl⟩
      have hul : u < 256 := by rw [hu]; exact (bs[k]'hlt).toNat_lt
      obtain ⟨q, hqe⟩ : ∃ q, q = crcMore r (bs.take k) := ⟨_, rfl⟩
      rw [← hu] at hc hsn
      rw [← hqe] at hsn hq
      rw [← hqe]
      have HS := Lib.hid hsn
      clear hsn hu hqe
      go_wp2_with fail
      go_loop [0, 6, 7] (fun q' c' j => ∃ t : Nat, t ≤ 8 ∧ j = .int .i64 t ∧ q' = .int .i64 ((crcBits q u t : Nat) : Int) ∧ c' = .int .i64 ((u / 2 ^ t : Nat) : Int)) (fun _ _ j => 8 - (intOf j).toNat)
      case atStart => exact ⟨0, by omega, rfl, rfl, by simp⟩
      case round =>
        obtain ⟨t, ht, rfl, rfl, rfl⟩ := hrel
        have hql := crcBits_lt hq u t
        by_cases h8 : t < 8
        · have hst : crcBits q u (t + 1) = crcBit (crcBits q u t) (u / 2 ^ t % 2) := rfl
          have hu1 : u / 2 ^ (t + 1) = u / 2 ^ t / 2 := by rw [Nat.pow_succ, Nat.div_div_eq_div_mul]
          have hu2 : u / 2 ^ t ≤ u := Nat.div_le_self _ _
          obtain ⟨y, hy⟩ : ∃ y, y = crcBits q u t := ⟨_, rfl⟩
          obtain ⟨v, hv⟩ : ∃ v, v = u / 2 ^ t := ⟨_, rfl⟩
          rw [← hy, ← hv] at hst
          rw [← hy] at hql
          rw [← hv] at hu1 hu2
          rw [← hy, ← hv]
          have HU := Lib.hid hu1
          clear hy hv hu1
          by_cases he : y % 2 = v % 2
          · have heq : ((y : Int) % 2 != (v : Int) % 2) = false := by simp; omega
            have hst2 : crcBits q u (t + 1) = y / 2 := by rw [hst]; unfold crcBit; rw [if_neg (by omega)]
            have HT := Lib.hid hst2
            clear hst hst2 he
            go_wp2_with fail
            go_round
            case rel => exact ⟨t + 1, by omega, by go_num, by rw [HT.out]; go_num, by rw [HU.out]; go_num⟩
            case measure => simp [intOf]; omega
          · have heq : ((y : Int) % 2 != (v : Int) % 2) = true := by simp; omega
            have hst2 : crcBits q u (t + 1) = (y / 2) ^^^ 3988292384 := by rw [hst]; unfold crcBit; rw [if_pos he]; rfl
            have HT := Lib.hid hst2
            clear hst hst2 he
            go_wp2_with fail
            refine (ref2_plus (y / 2) 3988292384 (by omega) (by omega) _).mono ?_
            rintro e w2 ⟨rfl, rfl⟩
            go_wp2_with fail
            go_round
            case rel => exact ⟨t + 1, by omega, by go_num, by rw [HT.out], by rw [HU.out]; go_num⟩
            case measure => simp [intOf]; omega
        · obtain rfl : t = 8 := by omega
          go_wp2_with fail
          go_round
          case rel => exact ⟨k + 1, by omega, by go_num, by rw [HS.out]⟩
          case measure => simp [intOf]; omega
    · obtain rfl : k = bs.length := by omega
      rw [List.take_of_length_le (Nat.le_refl _)]
      go_wp2
      go_ret
      exact ⟨rfl, rfl⟩
end Go.Proofs.Ytlinlmimakealaa
