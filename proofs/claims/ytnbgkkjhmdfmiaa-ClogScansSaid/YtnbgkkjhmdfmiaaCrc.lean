/- The walks of package crc (layer 2). -/
import Derived.Test.YtnbgkkjhmdfmiaaOne
import Derived.Test.YtnbgkkjhmdfmiaaCrcPure
namespace Go.Proofs.Ytnbgkkjhmdfmiaa
open Go.RowKit

theorem u32_and1 (X : Nat) (h : X < 2 ^ 32) : bits .and .u32 (X : Int) 1 = ((X % 2 : Nat) : Int) := by
  have := u32_and_nat X 1 (by omega) (by omega)
  rw [nat_mask1] at this
  exact this
theorem u32_step_odd (X : Nat) (h : X < 2 ^ 32) (ho : X % 2 = 1) : bits .xor .u32 ((X : Int) / 2) 3988292384 = ((crc1 X : Nat) : Int) := by
  have := u32_xor_nat (X / 2) 3988292384 (by omega) (by omega)
  unfold crc1 crcPoly
  rw [if_pos ho]
  simpa using this
theorem u32_step_even (X : Nat) (ho : ¬ X % 2 = 1) : (X : Int) / 2 = ((crc1 X : Nat) : Int) := by
  unfold crc1
  rw [if_neg ho]
  simp

/-- The frame of 'byte' at its label, in round k. -/
structure ByteJ (g : Nat) (c : UInt8) (x : Nat) (w : World) (a : Act) (w' : World) : Prop where
  out : ∃ (k : Nat) (u5 u6 u7 u8 u9 u10 u11 u12 u13 u14 u15 u16 u17 u18 u19 u20 u21 u22 u23 u24 u25 u26 u27 u28 u29 u30 u31 u32 u33 u34 u35 u36 u37 u38 u39 : Value), a = { tmps := #[.pointer (some ⟨g, 0, none⟩), .int .u8 (c.toNat : Int), undef, undef, .int .i64 k, u5, u6, u7, u8, u9, u10, u11, u12, u13, u14, u15, u16, u17, u18, u19, u20, u21, u22, u23, u24, u25, u26, u27, u28, u29, u30, u31, u32, u33, u34, u35, u36, u37, u38, u39], defers := [] } ∧ k < 8 ∧ One w' g 73 (.int .u32 ((crcI x k : Nat) : Int)) ∧ w.grownBy w' (some g)

set_option maxRecDepth 100000 in
theorem crc_byte (g r : Nat) (c : UInt8) (w : World) (h : One w g 73 (.int .u32 (r : Int))) (hr : r < 2 ^ 32) :
    Calls Try.prog 49 #[.pointer (some ⟨g, 0, none⟩), .int .u8 (c.toNat : Int)] w fun e w' => e = .returned (.tuple #[]) ∧ One w' g 73 (.int .u32 (crcByte r c : Nat)) ∧ w.grownBy w' (some g) := by
  have hc := h.cell
  have hf := h.frozen
  have hcl := c.toNat_lt
  have hx : bits .xor .u32 (r : Int) (c.toNat : Int) = ((r ^^^ c.toNat : Nat) : Int) := u32_xor_nat r c.toNat (by omega) (by omega)
  have hxl : r ^^^ c.toNat < 2 ^ 32 := Nat.xor_lt_two_pow hr (by omega)
  have hwr : IntKind.u32.wrap (c.toNat : Int) = (c.toNat : Int) := by rw [IntKind.wrap_u32]; omega
  have hset := h.set (.int .u32 ((r ^^^ c.toNat : Nat) : Int))
  have hgr := One.grow w g (.int .u32 ((r ^^^ c.toNat : Nat) : Int))
  have hfin : crcByte r c = crcI (r ^^^ c.toNat) 8 := rfl
  rw [hfin]
  obtain ⟨x, hxe⟩ : ∃ x, x = r ^^^ c.toNat := ⟨_, rfl⟩
  rw [← hxe] at hx hxl hset hgr ⊢
  clear hxe hfin
  have HS := Lib.hid hset
  have HG := Lib.hid hgr
  have HX := Lib.hid hxl
  clear hset hgr h hr hxl
  have pass : ∀ (k : Nat) (w1 : World) (X : Nat), X = crcI x k → One w1 g 73 (.int .u32 (X : Int)) → w1.cell? ⟨g, 0, none⟩ = some (.int .u32 (X : Int)) ∧ w1.frozen? ⟨g, 0, none⟩ = false ∧ X < 2 ^ 32 ∧ One (w1.setCell ⟨g, 0, none⟩ (.int .u32 ((crc1 X : Nat) : Int))) g 73 (.int .u32 ((crcI x (k + 1) : Nat) : Int)) := by
    intro k w1 X hX h1
    refine ⟨h1.cell, h1.frozen, ?_, ?_⟩
    · rw [hX]; exact crcI_lt HX.out k
    · rw [crcI, ← hX]; exact h1.set _
  go_enter Try.func49, Try.ntmps49
  go_wp2
  refine wp_scope_jumps 0 (ByteJ g c x w) (fun a' _ => 8 - (intOf (a'.tmps.getD 4 undef)).toNat) rfl ?_ ?_
  · go_wp2
    go_step3
    obtain ⟨w1, hw1⟩ : ∃ w1, w1 = w.setCell ⟨g, 0, none⟩ (.int .u32 (x : Int)) := ⟨_, rfl⟩
    rw [← hw1] at HS HG ⊢
    obtain ⟨hc1, hf1, hXl, hn⟩ := pass 0 w1 x rfl HS.out
    have HG2 := HG.out
    clear hw1 HS HG hx hwr hc hf
    have hand := u32_and1 x hXl
    by_cases ho : x % 2 = 1
    · have hst := u32_step_odd x hXl ho
      rw [ho] at hand
      clear ho
      go_wp2
      go_step3
      exact ⟨rfl, ⟨1, _, _, _, _, _, _, _, _, _, _, _, _, _, _, _, _, _, _, _, _, _, _, _, _, _, _, _, _, _, _, _, _, _, _, _, rfl, by omega, hn, HG2.trans (One.grow _ _ _)⟩⟩
    · have hst := u32_step_even x ho
      have ho2 : x % 2 = 0 := by omega
      rw [ho2] at hand
      clear ho ho2
      go_wp2
      go_step3
      exact ⟨rfl, ⟨1, _, _, _, _, _, _, _, _, _, _, _, _, _, _, _, _, _, _, _, _, _, _, _, _, _, _, _, _, _, _, _, _, _, _, _, rfl, by omega, hn, HG2.trans (One.grow _ _ _)⟩⟩
  · rintro a' w1 ⟨⟨k, u5, u6, u7, u8, u9, u10, u11, u12, u13, u14, u15, u16, u17, u18, u19, u20, u21, u22, u23, u24, u25, u26, u27, u28, u29, u30, u31, u32, u33, u34, u35, u36, u37, u38, u39, rfl, hk, h1, HG2⟩⟩
    obtain ⟨hc1, hf1, hXl, hn⟩ := pass k w1 (crcI x k) rfl h1
    clear h1 HS HG hx hwr hc hf
    obtain ⟨X, hX⟩ : ∃ X, X = crcI x k := ⟨_, rfl⟩
    rw [← hX] at hc1 hXl hn
    clear hX
    have hand := u32_and1 X hXl
    by_cases ho : X % 2 = 1
    · have hst := u32_step_odd X hXl ho
      rw [ho] at hand
      clear ho
      go_wp2
      · go_step3
        refine ⟨rfl, ⟨⟨k + 1, _, _, _, _, _, _, _, _, _, _, _, _, _, _, _, _, _, _, _, _, _, _, _, _, _, _, _, _, _, _, _, _, _, _, _, rfl, by omega, hn, HG2.trans (One.grow _ _ _)⟩⟩, ?_⟩
        simp [intOf]; omega
      · simp only [Exit.jump]
        go_end0
        obtain rfl : k = 7 := by omega
        exact ⟨rfl, hn, HG2.trans (One.grow _ _ _)⟩
    · have hst := u32_step_even X ho
      have ho2 : X % 2 = 0 := by omega
      rw [ho2] at hand
      clear ho ho2
      go_wp2
      · go_step3
        refine ⟨rfl, ⟨⟨k + 1, _, _, _, _, _, _, _, _, _, _, _, _, _, _, _, _, _, _, _, _, _, _, _, _, _, _, _, _, _, _, _, _, _, _, _, rfl, by omega, hn, HG2.trans (One.grow _ _ _)⟩⟩, ?_⟩
        simp [intOf]; omega
      · simp only [Exit.jump]
        go_end0
        obtain rfl : k = 7 := by omega
        exact ⟨rfl, hn, HG2.trans (One.grow _ _ _)⟩

/-- (*Hasher).Add. -/
theorem crc_add (g r : Nat) (A : Option Addr) (bs : List UInt8) (n c : Nat) (hn : n = bs.length) (B : Nat) (w : World) (h : One w g 73 (.int .u32 (r : Int))) (hr : r < 2 ^ 32) (hb : RB w B A bs) (hB : B ≤ w.heap.size) (hne : ∀ a, A = some a → a.block ≠ g) (hl : bs.length ≤ 1073741824) :
    Calls Try.prog 41 #[.pointer (some ⟨g, 0, none⟩), .slice A n c] w fun e w' => e = .returned (.tuple #[]) ∧ One w' g 73 (.int .u32 (crcMore r bs : Nat)) ∧ w.grownBy w' (some g) := by
  subst hn
  have HNE := Lib.hid hne
  have HR := Lib.hid hr
  clear hne hr
  go_enter Try.func41, Try.ntmps41
  go_wp2_with fail
  go_loopw [8] (fun i wr => ∃ k : Nat, k ≤ bs.length ∧ i = .int .i64 k ∧ One wr g 73 (.int .u32 ((crcMore r (bs.take k) : Nat) : Int)) ∧ w.grownBy wr (some g)) (fun i _ => bs.length - (intOf i).toNat)
  case atStart => exact ⟨0, Nat.zero_le _, rfl, by rw [List.take_zero]; exact h, World.grownBy.refl w _⟩
  case round =>
    obtain ⟨k, hk, rfl, hone, hg⟩ := hrel
    by_cases hlt : k < bs.length
    · have hbr := hb.grownBy hg hB HNE.out
      obtain ⟨b, o, rfl, -, hc⟩ := hbr.at_ hlt
      have hcr := crcMore_lt HR.out (bs.take k)
      have hsn : crcByte (crcMore r (bs.take k)) (bs[k]'hlt) = crcMore r (bs.take (k + 1)) := by
        rw [List.take_succ_eq_append_getElem hlt, crcMore_snoc]
      obtain ⟨u, hu⟩ : ∃ u, u = bs[k]'hlt := ⟨_, rfl⟩
      rw [← hu] at hc hsn
      have HS := Lib.hid hsn
      clear hsn hu hb hbr
      go_wp2_with fail
      refine (crc_byte g _ u wr hone hcr).mono ?_
      rintro e w2 ⟨rfl, hone2, hg2⟩
      rw [HS.out] at hone2
      go_wp2_with fail
      go_roundw
      case rel => exact ⟨k + 1, by omega, by go_num, hone2, hg.trans hg2⟩
      case measure => simp [intOf]; omega
    · obtain rfl : k = bs.length := by omega
      rw [List.take_of_length_le (Nat.le_refl _)] at hone
      go_wp2
      go_end0
      exact ⟨rfl, hone, hg⟩

theorem crc_add' (g r : Nat) (A : Option Addr) (bs : List UInt8) (n c : Nat) (hn : n = bs.length) (B : Nat) (w : World) (h : One w g 73 (.int .u32 (r : Int))) (hr : r < 2 ^ 32) (hb : RB w B A bs) (hB : B ≤ w.heap.size) (hne : ∀ a, A = some a → 0 < bs.length → a.block ≠ g) (hl : bs.length ≤ 1073741824) :
    Calls Try.prog 41 #[.pointer (some ⟨g, 0, none⟩), .slice A n c] w fun e w' => e = .returned (.tuple #[]) ∧ One w' g 73 (.int .u32 (crcMore r bs : Nat)) ∧ w.grownBy w' (some g) := by
  by_cases h0 : 0 < bs.length
  · exact crc_add g r A bs n c hn B w h hr hb hB (fun a ha => hne a ha h0) hl
  · have e : bs = [] := List.eq_nil_of_length_eq_zero (by omega)
    subst e
    simp only [List.length_nil] at hn
    subst hn
    go_enter Try.func41, Try.ntmps41
    go_wp2_with fail
    go_loop [8] (fun i => i = .int .i64 0) (fun _ => 0)
    case atStart => rfl
    case round =>
      subst hrel
      go_wp2
      go_end0
      exact ⟨rfl, h, World.grownBy.refl w _⟩

/-- crc.New. -/
theorem crc_new (w : World) :
    Calls Try.prog 40 #[] w fun e w' => e = .returned (.pointer (some ⟨w.heap.size, 0, none⟩)) ∧ One w' w.heap.size 73 (.int .u32 4294967295) ∧ Below w.heap.size w w' ∧ w'.heap.size = w.heap.size + 1 := by
  go_enter Try.func40, Try.ntmps40
  go_wp2
  go_ret
  exact ⟨rfl, One.new w _ _, (Below.refl _ _).alloc (Nat.le_refl _) _, by simp⟩

/-- (*Hasher).Sum. -/
theorem crc_hsum (g r : Nat) (w : World) (h : One w g 73 (.int .u32 (r : Int))) (hr : r < 2 ^ 32) :
    Calls Try.prog 42 #[.pointer (some ⟨g, 0, none⟩)] w fun e w' => e = .returned (.int .u32 (4294967295 - r : Nat)) ∧ w = w' := by
  have hc := h.cell
  go_enter Try.func42, Try.ntmps42
  go_wp2
  go_ret
  refine ⟨ret_int ?_, rfl⟩
  have e : IntKind.u32.max = ((4294967295 : Nat) : Int) := by decide
  rw [e, u32_xor_nat _ _ (by omega) (by omega), Nat.xor_comm, xor_ones hr]

end Go.Proofs.Ytnbgkkjhmdfmiaa
