/- The walks of the reference of layer 2. Stores into a row of bytes of the call's own. Steps over slices of bytes and rows, in words that last from call to call (the part that asks for no function of the program). commonsref02.Sum, and a constant text's block. No statement of the seat is proved here. -/
import Derived.Test.YtncjfljmnkfghaaZ03
import Derived.Test.YtncjfljmnkfghaaZ01
import Derived.Deep.Onto
namespace Go.Proofs.Ytncjfljmnkfghaa
open Go.RowKit

theorem plus_step (x a b k : Nat) (hx : x = a ^^^ b) : x % 2 ^ (k + 1) = x % 2 ^ k + 2 ^ k * ((a / 2 ^ k % 2 + b / 2 ^ k % 2) % 2) := by
  subst hx
  rw [Nat.mod_pow_succ, Nat.xor_div_two_pow, xor_mod2]

theorem ref2_plus (a b : Nat) (ha : a < 2 ^ 32) (hb : b < 2 ^ 32) (w : World) :
    Calls Try.prog 87 #[.int .i64 (a : Int), .int .i64 (b : Int)] w fun e w' => e = .returned (.int .i64 ((a ^^^ b : Nat) : Int)) ∧ w = w' := by
  have hlt := Nat.xor_lt_two_pow ha hb
  obtain ⟨x, hx⟩ : ∃ x, x = a ^^^ b := ⟨_, rfl⟩
  rw [← hx] at hlt ⊢
  have HX := Lib.hid hx
  clear hx
  go_enter Try.func87, Try.ntmps87
  go_wp2
  go_loop [0, 1, 5, 6, 7] (fun p q n r i => ∃ k : Nat, k ≤ 32 ∧ i = .int .i64 k ∧ p = .int .i64 ((a / 2 ^ k : Nat) : Int) ∧ q = .int .i64 ((b / 2 ^ k : Nat) : Int) ∧ n = .int .i64 ((x % 2 ^ k : Nat) : Int) ∧ r = .int .i64 ((2 ^ k : Nat) : Int)) (fun _ _ _ _ i => 32 - (intOf i).toNat)
  case atStart => exact ⟨0, by omega, rfl, by simp, by simp, by simp [Nat.mod_one], rfl⟩
  case round =>
    obtain ⟨k, hk, rfl, rfl, rfl, rfl, rfl⟩ := hrel
    by_cases hlt32 : k < 32
    · have hst := plus_step x a b k HX.out
      have ha1 : a / 2 ^ (k + 1) = a / 2 ^ k / 2 := by rw [Nat.pow_succ, Nat.div_div_eq_div_mul]
      have hb1 : b / 2 ^ (k + 1) = b / 2 ^ k / 2 := by rw [Nat.pow_succ, Nat.div_div_eq_div_mul]
      have hp1 : 2 ^ (k + 1) = 2 ^ k * 2 := Nat.pow_succ ..
      have hp : 2 ^ k ≤ 2 ^ 31 := Nat.pow_le_pow_right (by omega) (by omega)
      have hpa : a / 2 ^ k ≤ a := Nat.div_le_self _ _
      have hpb : b / 2 ^ k ≤ b := Nat.div_le_self _ _
      have hn : x % 2 ^ k < 2 ^ k := Nat.mod_lt _ (Nat.pow_pos (by omega))
      obtain ⟨p, hpe⟩ : ∃ p, p = a / 2 ^ k := ⟨_, rfl⟩
      obtain ⟨q, hqe⟩ : ∃ q, q = b / 2 ^ k := ⟨_, rfl⟩
      obtain ⟨n, hne⟩ : ∃ n, n = x % 2 ^ k := ⟨_, rfl⟩
      obtain ⟨r, hre⟩ : ∃ r, r = 2 ^ k := ⟨_, rfl⟩
      rw [← hpe] at hst ha1 hpa
      rw [← hqe] at hst hb1 hpb
      rw [← hne] at hst hn
      rw [← hre] at hst hp1 hp hn
      rw [← hpe, ← hqe, ← hne, ← hre]
      have HA := Lib.hid ha1
      have HB := Lib.hid hb1
      have HP := Lib.hid hp1
      clear hpe hqe hne hre ha1 hb1 hp1
      by_cases he : p % 2 = q % 2
      · have heq : ((p : Int) % 2 != (q : Int) % 2) = false := by simp; omega
        have hst2 : x % 2 ^ (k + 1) = n := by have h2 : (p % 2 + q % 2) % 2 = 0 := by { omega }; rw [hst, h2]; simp
        have HS := Lib.hid hst2
        clear hst hst2 he
        go_wp2
        go_round
        case rel => exact ⟨k + 1, by omega, by go_num, by rw [HA.out]; go_num, by rw [HB.out]; go_num, by rw [HS.out], by rw [HP.out]; go_num⟩
        case measure => simp [intOf]; omega
      · have heq : ((p : Int) % 2 != (q : Int) % 2) = true := by simp; omega
        have hst2 : x % 2 ^ (k + 1) = n + r := by have h2 : (p % 2 + q % 2) % 2 = 1 := by { omega }; rw [hst, h2]; simp
        have HS := Lib.hid hst2
        clear hst hst2 he
        go_wp2
        go_round
        case rel => exact ⟨k + 1, by omega, by go_num, by rw [HA.out]; go_num, by rw [HB.out]; go_num, by rw [HS.out]; go_num, by rw [HP.out]; go_num⟩
        case measure => simp [intOf]; omega
    · obtain rfl : k = 32 := by omega
      have hm : x % 2 ^ 32 = x := Nat.mod_eq_of_lt hlt
      rw [hm]
      clear hm
      go_wp2
      go_ret
      exact ⟨rfl, rfl⟩

theorem ref2_more (r : Nat) (hr : r < 2 ^ 32) (A : Option Addr) (bs : List UInt8) (n c : Nat) (hn : n = bs.length) (B : Nat) (w : World) (hb : RB w B A bs) (hl : bs.length ≤ 1073741824) :
    Calls Try.prog 80 #[.int .i64 (r : Int), .slice A n c] w fun e w' => e = .returned (.int .i64 (crcMore r bs : Nat)) ∧ w = w' := by
  subst hn
  go_enter Try.func80, Try.ntmps80
  go_wp2_with fail
  go_loop [0, 5] (fun q i => ∃ k : Nat, k ≤ bs.length ∧ i = .int .i64 k ∧ q = .int .i64 ((crcMore r (bs.take k) : Nat) : Int)) (fun _ i => bs.length - (intOf i).toNat)
  case atStart => exact ⟨0, Nat.zero_le _, rfl, by rw [List.take_zero]; rfl⟩
  case round =>
    obtain ⟨k, hk, rfl, rfl⟩ := hrel
    have hq := crcMore_lt hr (bs.take k)
    by_cases hlt : k < bs.length
    · obtain ⟨b, o, rfl, -, hc⟩ := hb.at_ hlt
      have hsn : crcMore r (bs.take (k + 1)) = crcBits (crcMore r (bs.take k)) (bs[k]'hlt).toNat 8 := by
        rw [List.take_succ_eq_append_getElem hlt, crcMore_snoc, crcByte_bits]
      obtain ⟨u, hu⟩ : ∃ u, u = (bs[k]'hlt).toNat := ⟨_, rfl⟩
      have hul : u < 256 := by rw [hu]; exact (bs[k]'hlt).toNat_lt
      obtain ⟨q, hqe⟩ : ∃ q, q = crcMore r (bs.take k) := ⟨_, rfl⟩
      rw [← hu] at hc hsn
      rw [← hqe] at hsn hq
      rw [← hqe]
      have HS := Lib.hid hsn
      clear hsn hu hqe
      go_wp2_with fail
      go_loop [0, 6, 7] (fun q' c' j => ∃ t : Nat, t ≤ 8 ∧ j = .int .i64 t ∧ q' = .int .i64 ((crcBits q u t : Nat) : Int) ∧ c' = .int .i64 ((u / 2 ^ t : Nat) : Int)) (fun _ _ j => 8 - (intOf j).toNat)
      case atStart => exact ⟨0, by omega, rfl, rfl, by simp⟩
      case round =>
        obtain ⟨t, ht, rfl, rfl, rfl⟩ := hrel
        have hql := crcBits_lt hq u t
        by_cases h8 : t < 8
        · have hst : crcBits q u (t + 1) = crcBit (crcBits q u t) (u / 2 ^ t % 2) := rfl
          have hu1 : u / 2 ^ (t + 1) = u / 2 ^ t / 2 := by rw [Nat.pow_succ, Nat.div_div_eq_div_mul]
          have hu2 : u / 2 ^ t ≤ u := Nat.div_le_self _ _
          obtain ⟨y, hy⟩ : ∃ y, y = crcBits q u t := ⟨_, rfl⟩
          obtain ⟨v, hv⟩ : ∃ v, v = u / 2 ^ t := ⟨_, rfl⟩
          rw [← hy, ← hv] at hst
          rw [← hy] at hql
          rw [← hv] at hu1 hu2
          rw [← hy, ← hv]
          have HU := Lib.hid hu1
          clear hy hv hu1
          by_cases he : y % 2 = v % 2
          · have heq : ((y : Int) % 2 != (v : Int) % 2) = false := by simp; omega
            have hst2 : crcBits q u (t + 1) = y / 2 := by rw [hst]; unfold crcBit; rw [if_neg (by omega)]
            have HT := Lib.hid hst2
            clear hst hst2 he
            go_wp2_with fail
            go_round
            case rel => exact ⟨t + 1, by omega, by go_num, by rw [HT.out]; go_num, by rw [HU.out]; go_num⟩
            case measure => simp [intOf]; omega
          · have heq : ((y : Int) % 2 != (v : Int) % 2) = true := by simp; omega
            have hst2 : crcBits q u (t + 1) = (y / 2) ^^^ 3988292384 := by rw [hst]; unfold crcBit; rw [if_pos he]; rfl
            have HT := Lib.hid hst2
            clear hst hst2 he
            go_wp2_with fail
            refine (ref2_plus (y / 2) 3988292384 (by omega) (by omega) _).mono ?_
            rintro e w2 ⟨rfl, rfl⟩
            go_wp2_with fail
            go_round
            case rel => exact ⟨t + 1, by omega, by go_num, by rw [HT.out], by rw [HU.out]; go_num⟩
            case measure => simp [intOf]; omega
        · obtain rfl : t = 8 := by omega
          go_wp2_with fail
          go_round
          case rel => exact ⟨k + 1, by omega, by go_num, by rw [HS.out]⟩
          case measure => simp [intOf]; omega
    · obtain rfl : k = bs.length := by omega
      rw [List.take_of_length_le (Nat.le_refl _)]
      go_wp2
      go_ret
      exact ⟨rfl, rfl⟩
end Go.Proofs.Ytncjfljmnkfghaa

namespace Go.Proofs.Ytncjfljmnkfghaa
open Go.RowKit

theorem bvs_set (bs : List UInt8) (j : Nat) (u : UInt8) : (bvs bs).set j (bv u) = bvs (bs.set j u) := by simp [bvs, List.map_set]

theorem OB.stored {w : World} {base g c : Nat} {bs : List UInt8} {n : Nat} (hn : n = bs.length) (h : OB w base (.slice (some ⟨g, 0, none⟩) n c) bs) (j : Nat) (u : UInt8) :
    OB (w.setCell ⟨g, j, none⟩ (bv u)) base (.slice (some ⟨g, 0, none⟩) n c) (bs.set j u) ∧ w.grownBy (w.setCell ⟨g, j, none⟩ (bv u)) (some g) := by
  subst hn
  have := World.ownsRow.stored h j (bv u)
  rw [bvs_set] at this
  refine ⟨?_, this.2⟩
  unfold OB
  rw [List.length_set]
  exact this.1
theorem OB.cellAt {w : World} {base g c : Nat} {bs : List UInt8} {n : Nat} (hn : n = bs.length) (h : OB w base (.slice (some ⟨g, 0, none⟩) n c) bs) (j : Nat) (hj : j < bs.length) : w.cell? ⟨g, j, none⟩ = some (.int .u8 (bs[j].toNat : Int)) := by
  subst hn
  rw [World.ownsRow.cellAt h j (by omega), bvs_get bs j hj]
  rfl
theorem OB.frozenAt {w : World} {base g c : Nat} {bs : List UInt8} {n : Nat} (hn : n = bs.length) (h : OB w base (.slice (some ⟨g, 0, none⟩) n c) bs) (j : Nat) : w.frozen? ⟨g, j, none⟩ = false := by
  subst hn
  exact World.ownsRow.frozenAt h j

theorem OB.rd {w : World} {base c : Nat} {A : Option Addr} {bs : List UInt8} {n : Nat} (hn : n = bs.length) (h : OB w base (.slice A n c) bs) : RB w w.heap.size A bs := by
  subst hn
  exact Rd.of_own h

end Go.Proofs.Ytncjfljmnkfghaa

namespace Go.Proofs.Ytncjfljmnkfghaa
open Go.RowKit

theorem RB.lit' (w : World) (t : TypeId) (cs : Array Value) (fz : Nat × Nat) (bs : List UInt8) (h : cs = (bvs bs).toArray) : RB (w.alloc (.cells cs t fz)) (w.alloc (.cells cs t fz)).heap.size (some ⟨w.heap.size, 0, none⟩) bs := by
  subst h
  refine ⟨by simp [bvs], fun _ => ⟨_, _, rfl, by simp, fun j u hu => ?_⟩⟩
  rw [cell_of_row _ _ (0 + j) (bvs bs).toArray t fz (heap_alloc_new w _)]
  simpa using hu

/-- What was there is as it was. -/
def Grow (w w' : World) : Prop := Below w.heap.size w w'
section
variable {a b c w w' : World} {A : Option Addr} {n : Nat} {bs : List UInt8}
theorem Grow.refl (w : World) : Grow w w := Below.refl _ _
theorem Grow.size (h : Grow a b) : a.heap.size ≤ b.heap.size := Below.size h
theorem Grow.trans (h : Grow a b) (g : Grow b c) : Grow a c := Below.trans h (Below.mono g (Below.size h))
theorem Grow.low (h : Grow a b) (g : Below a.heap.size b c) : Grow a c := Below.trans h g
theorem Grow.alloc (h : Grow a b) (o : Obj) : Grow a (b.alloc o) := Below.alloc h (Below.size h) o
theorem Grow.drew (h : Grow a b) : Grow a b.drew := Below.drew h
theorem Grow.drewN (h : Grow a b) (k : Nat) : Grow a (b.drewN k) := below_drewN h k
theorem Grow.setCell (h : Grow a b) {p : Addr} (hp : a.heap.size ≤ p.block) (v : Value) : Grow a (b.setCell p v) := Below.setCell h hp v
theorem Grow.ofBelow {B : Nat} (h : Below B a b) (hB : B = a.heap.size) : Grow a b := by subst hB; exact h
theorem Grow.cells (h : Grow a b) : (∀ k o, k < a.heap.size → b.cell? ⟨k, o, none⟩ = a.cell? ⟨k, o, none⟩) ∧ (∀ k o, k < a.heap.size → b.frozen? ⟨k, o, none⟩ = a.frozen? ⟨k, o, none⟩) :=
  ⟨fun k o hk => Below.cell h (p := ⟨k, o, none⟩) hk, fun k o hk => Below.frozen h (p := ⟨k, o, none⟩) hk⟩
theorem Grow.cell (h : Grow a b) {p : Addr} {v : Value} (hc : a.cell? p = some v) : b.cell? p = some v := by
  obtain ⟨k, o, s⟩ := p
  have hs := World.cell?_spot hc
  simp at hs
  subst hs
  have := World.block_lt_of_cell? a _ hc
  exact (Below.cell h (p := ⟨k, o, none⟩) this).trans hc

theorem setCell_again (w : World) (b o : Nat) (v v' : Value) : (w.setCell ⟨b, o, none⟩ v).setCell ⟨b, o, none⟩ v' = w.setCell ⟨b, o, none⟩ v' := by
  unfold World.setCell
  congr 1
  apply Array.ext
  · simp
  · intro i h1 h2
    simp only [Array.getElem_modify]
    split
    · cases w.heap[i]'(by simpa using h2) <;> simp
    · rfl

theorem cell_set_eq {w : World} {p : Addr} {u v : Value} (h : w.cell? p = some u) : (w.setCell p v).cell? p = some v := World.cell?_setCell_same _ _ _ h
theorem cell_set_ne {w : World} {p q : Addr} {u v : Value} (h : w.cell? q = some v) (hn : p.block ≠ q.block) : (w.setCell p u).cell? q = some v := (World.cell?_setCell_other _ _ _ _ fun e => hn (by rw [e])).trans h
theorem cell_alloc {w : World} {o : Obj} {p : Addr} {v : Value} (h : w.cell? p = some v) : (w.alloc o).cell? p = some v := ((Grow.refl w).alloc o).cell h

/-- A slice of n bytes that is read in this world. -/
def Sl (w : World) (A : Option Addr) (n : Nat) (bs : List UInt8) : Prop := bs.length = n ∧ n ≤ 1073741000 ∧ RB w w.heap.size A bs
theorem Sl.keep (h : Sl w A n bs) (g : Grow w w') : Sl w' A n bs := ⟨h.1, h.2.1, (h.2.2.below g).more (Below.size g)⟩
theorem Sl.alloc (h : Sl w A n bs) (o : Obj) : Sl (w.alloc o) A n bs := h.keep ((Grow.refl w).alloc o)
theorem Sl.drewN (h : Sl w A n bs) (k : Nat) : Sl (w.drewN k) A n bs := h.keep ((Grow.refl w).drewN k)
theorem Sl.drew (h : Sl w A n bs) : Sl w.drew A n bs := h.keep ((Grow.refl w).drew)
theorem Sl.nil : Sl w A 0 [] := ⟨rfl, by omega, RB.nil_⟩
theorem Sl.len (h : Sl w A n bs) : bs.length = n := h.1
theorem Sl.take (h : Sl w A n bs) {k : Nat} (hk : k ≤ n) : Sl w A k (bs.take k) := ⟨by have := h.1; simp; omega, by have := h.2.1; omega, h.2.2.take (by have := h.1; omega)⟩
theorem Sl.ofRB (h : RB w w.heap.size A bs) (hn : bs.length = n) (hl : n ≤ 1073741000) : Sl w A n bs := ⟨hn, hl, h⟩
theorem Sl.ofTake (h : RB w w.heap.size A bs) (hn : n ≤ bs.length) (hl : n ≤ 1073741000) : Sl w A n (bs.take n) := ⟨by simp; omega, hl, h.take hn⟩
theorem Sl.drop (h : Sl w A n bs) {k c : Nat} (hk : k ≤ n) (hc : n ≤ c) : Sl w (if c = k then A else A.map (·.add k)) (n - k) (bs.drop k) :=
  ⟨by have := h.1; simp; omega, by have := h.2.1; omega, h.2.2.drop (by have := h.1; omega) (by have := h.1; omega)⟩
theorem Sl.cell (h : Sl w A n bs) {k : Nat} (hk : k < n) : ∃ b o, A = some ⟨b, o, none⟩ ∧ b < w.heap.size ∧ w.cell? ⟨b, o + k, none⟩ = some (.int .u8 ((bs[k]'(by have := h.1; omega)).toNat : Int)) := h.2.2.at_ (by have := h.1; omega)
theorem Sl.all (h : Sl w A n bs) (h0 : 0 < n) : ∃ b o, A = some ⟨b, o, none⟩ ∧ b < w.heap.size ∧ ∀ k (hk : k < n), w.cell? ⟨b, o + k, none⟩ = some (.int .u8 ((bs[k]'(by have := h.1; omega)).toNat : Int)) := by
  obtain ⟨b, o, e, hb, hc⟩ := h.2.2.all (by have := h.1; omega)
  exact ⟨b, o, e, hb, fun k hk => hc k (by have := h.1; omega)⟩
theorem Sl.lit (w : World) (t : TypeId) (cs : Array Value) (bs : List UInt8) (n : Nat) (hn : bs.length = n) (h : cs = (bvs bs).toArray) (hl : n ≤ 1073741000) : Sl (w.alloc (.cells cs t)) (some ⟨w.heap.size, 0, none⟩) n bs :=
  ⟨hn, hl, by have := RB.lit w t cs bs h; simpa using this⟩

theorem Sl.litf (w : World) (t : TypeId) (cs : Array Value) (fz : Nat × Nat) (bs : List UInt8) (n : Nat) (hn : bs.length = n) (h : cs = (bvs bs).toArray) (hl : n ≤ 1073741000) : Sl (w.alloc (.cells cs t fz)) (some ⟨w.heap.size, 0, none⟩) n bs :=
  ⟨hn, hl, RB.lit' w t cs fz bs h⟩

/-- A slice of n bytes of the call's own: what lies below 'base' is none of it. -/
def Own (w : World) (base : Nat) (A : Option Addr) (n c : Nat) (bs : List UInt8) : Prop := bs.length = n ∧ n ≤ 1073741000 ∧ OB w base (.slice A n c) bs
theorem Own.sl {base c' : Nat} (h : Own w base A n c' bs) : Sl w A n bs := by
  obtain ⟨h1, h2, h3⟩ := h
  obtain ⟨A', c2, e, -, -, hr, -⟩ := h3.form
  injection e with e1 e2 e3
  subst e1
  exact ⟨h1, h2, hr⟩
theorem Own.low {base B : Nat} {c' : Nat} (h : Own w base A n c' bs) (hB : B ≤ base) : Own w B A n c' bs := ⟨h.1, h.2.1, World.ownsRow.mono h.2.2 hB⟩
theorem Own.cap {base : Nat} {c' : Nat} (h : Own w base A n c' bs) : n ≤ c' := by
  obtain ⟨A', c2, e, h1, -, -, -⟩ := h.2.2.form
  injection e with e1 e2 e3
  omega
theorem Own.row {base c' : Nat} (h : Own w base A n c' bs) (h0 : 0 < n) : ∃ g, A = some ⟨g, 0, none⟩ ∧ base ≤ g ∧ g < w.heap.size := by
  obtain ⟨h1, h2, h3⟩ := h
  obtain ⟨A', c2, e, -, -, hr, hb⟩ := h3.form
  injection e with e1 e2 e3
  subst e1
  obtain ⟨b, o, e, -⟩ := hr.2 (by omega)
  obtain ⟨q1, q2, q3⟩ := hb _ e
  injection q3 with q4 q5
  refine ⟨b, ?_, q1, q2⟩
  rw [e, q5]
theorem Own.alloc {base : Nat} {c' : Nat} (h : Own w base A n c' bs) (o : Obj) : Own (w.alloc o) base A n c' bs := ⟨h.1, h.2.1, h.2.2.alloc o⟩
theorem Own.ofOB {base : Nat} {v : Value} (h : OB w base v bs) (m : Nat) (hm : bs.length = m) (hl : m ≤ 1073741000) : ∃ A c, v = .slice A m c ∧ Own w base A m c bs := by
  obtain ⟨A, c, rfl, -, -, -, -⟩ := h.form
  exact ⟨A, c, by rw [hm], hm, hl, by rw [← hm]; exact h⟩
theorem Own.nil (w : World) (base : Nat) : Own w base none 0 0 [] := ⟨rfl, by omega, OB.nil w base⟩
end

/-- The cells of block g, from the first on. -/
def Blk (w : World) (g : Nat) (vs : List Value) : Prop := g < w.heap.size ∧ ∀ j v, vs[j]? = some v → w.cell? ⟨g, j, none⟩ = some v
theorem Blk.keep {w w' : World} {g : Nat} {vs : List Value} (h : Blk w g vs) (k : Grow w w') : Blk w' g vs := ⟨Nat.lt_of_lt_of_le h.1 k.size, fun j v hv => k.cell (h.2 j v hv)⟩
theorem Blk.below {w w' : World} {g B : Nat} {vs : List Value} (h : Blk w g vs) (k : Below B w w') (hg : g < B) : Blk w' g vs := ⟨Nat.lt_of_lt_of_le h.1 k.size, fun j v hv => (k.cell (p := ⟨g, j, none⟩) hg).trans (h.2 j v hv)⟩
theorem Blk.new (w : World) (t : TypeId) (vs : List Value) (cs : Array Value) (fz : Nat × Nat) (h : cs = vs.toArray) : Blk (w.alloc (.cells cs t fz)) w.heap.size vs := by
  subst h
  refine ⟨by simp, fun j v hv => ?_⟩
  rw [cell_of_row _ _ j vs.toArray t fz (heap_alloc_new w _)]
  simpa using hv
section
variable {w : World} {g : Nat} {a b c d e f : Value}
theorem Blk.c1 (h : Blk w g [a]) : w.cell? ⟨g, 0, none⟩ = some a := h.2 0 _ rfl
theorem Blk.c2 (h : Blk w g [a, b]) : w.cell? ⟨g, 0, none⟩ = some a ∧ w.cell? ⟨g, 1, none⟩ = some b := ⟨h.2 0 _ rfl, h.2 1 _ rfl⟩
theorem Blk.c3 (h : Blk w g [a, b, c]) : w.cell? ⟨g, 0, none⟩ = some a ∧ w.cell? ⟨g, 1, none⟩ = some b ∧ w.cell? ⟨g, 2, none⟩ = some c := ⟨h.2 0 _ rfl, h.2 1 _ rfl, h.2 2 _ rfl⟩
theorem Blk.c4 (h : Blk w g [a, b, c, d]) : w.cell? ⟨g, 0, none⟩ = some a ∧ w.cell? ⟨g, 1, none⟩ = some b ∧ w.cell? ⟨g, 2, none⟩ = some c ∧ w.cell? ⟨g, 3, none⟩ = some d := ⟨h.2 0 _ rfl, h.2 1 _ rfl, h.2 2 _ rfl, h.2 3 _ rfl⟩
theorem Blk.c5 (h : Blk w g [a, b, c, d, e]) : w.cell? ⟨g, 0, none⟩ = some a ∧ w.cell? ⟨g, 1, none⟩ = some b ∧ w.cell? ⟨g, 2, none⟩ = some c ∧ w.cell? ⟨g, 3, none⟩ = some d ∧ w.cell? ⟨g, 4, none⟩ = some e := ⟨h.2 0 _ rfl, h.2 1 _ rfl, h.2 2 _ rfl, h.2 3 _ rfl, h.2 4 _ rfl⟩
theorem Blk.c6 (h : Blk w g [a, b, c, d, e, f]) : w.cell? ⟨g, 0, none⟩ = some a ∧ w.cell? ⟨g, 1, none⟩ = some b ∧ w.cell? ⟨g, 2, none⟩ = some c ∧ w.cell? ⟨g, 3, none⟩ = some d ∧ w.cell? ⟨g, 4, none⟩ = some e ∧ w.cell? ⟨g, 5, none⟩ = some f := ⟨h.2 0 _ rfl, h.2 1 _ rfl, h.2 2 _ rfl, h.2 3 _ rfl, h.2 4 _ rfl, h.2 5 _ rfl⟩
end

theorem Blk.set_ne {w : World} {g : Nat} {vs : List Value} {p : Addr} {v : Value} (h : Blk w g vs) (hn : p.block ≠ g) : Blk (w.setCell p v) g vs := ⟨by simpa using h.1, fun j u hu => cell_set_ne (h.2 j u hu) hn⟩
theorem Blk.set {w : World} {g : Nat} {vs : List Value} {v : Value} (h : Blk w g vs) {j : Nat} (hj : j < vs.length) : Blk (w.setCell ⟨g, j, none⟩ v) g (vs.set j v) := by
  refine ⟨by simpa using h.1, fun i u hu => ?_⟩
  by_cases e : j = i
  · subst e
    obtain rfl : v = u := by simpa [List.getElem?_set, hj] using hu
    exact cell_set_eq (h.2 j _ (List.getElem?_eq_getElem hj))
  · rw [List.getElem?_set_ne e] at hu
    exact (World.cell?_setCell_other _ _ _ _ (fun e2 => e (by injection e2))).trans (h.2 i u hu)
/-- The cells of block g, none of them frozen. -/
def Row (w : World) (g : Nat) (vs : List Value) : Prop := Blk w g vs ∧ ∀ j, j < vs.length → w.frozen? ⟨g, j, none⟩ = false
theorem Row.keep {w w' : World} {g : Nat} {vs : List Value} (h : Row w g vs) (k : Grow w w') : Row w' g vs := ⟨h.1.keep k, fun j hj => (k.cells.2 g j h.1.1).trans (h.2 j hj)⟩
theorem Row.new (w : World) (t : TypeId) (vs : List Value) (cs : Array Value) (h : cs = vs.toArray) : Row (w.alloc (.cells cs t)) w.heap.size vs := by
  refine ⟨Blk.new w t vs cs (0, 0) h, fun j _ => ?_⟩
  exact frozen_of_row _ _ j _ t (heap_alloc_new w _)
theorem Row.set_ne {w : World} {g : Nat} {vs : List Value} {p : Addr} {v : Value} (h : Row w g vs) (hn : p.block ≠ g) : Row (w.setCell p v) g vs := ⟨h.1.set_ne hn, fun j hj => by simpa using h.2 j hj⟩
theorem Row.set {w : World} {g : Nat} {vs : List Value} {v : Value} (h : Row w g vs) {j : Nat} (hj : j < vs.length) : Row (w.setCell ⟨g, j, none⟩ v) g (vs.set j v) := ⟨h.1.set hj, fun i hi => by rw [List.length_set] at hi; simpa using h.2 i hi⟩

theorem ints_new (w : World) (t : TypeId) (ns : List Int) (cs : Array Value) (h : cs = (ns.map (Value.int .i64)).toArray) : ∀ j (_ : j < ns.length), (w.alloc (.cells cs t)).cell? ⟨w.heap.size, 0 + j, none⟩ = some (.int .i64 ns[j]) := by
  subst h
  intro j hj
  rw [cell_of_row _ _ (0 + j) (ns.map (Value.int .i64)).toArray t (0, 0) (heap_alloc_new w _)]
  simp [hj]

theorem ints_at (w : World) (t : TypeId) (b : Nat) (ns : List Int) (cs : Array Value) (hb : b = w.heap.size) (h : cs = (ns.map (Value.int .i64)).toArray) : ∀ j (_ : j < ns.length), (w.alloc (.cells cs t)).cell? ⟨b, 0 + j, none⟩ = some (.int .i64 ns[j]) := by
  subst hb
  exact ints_new w t ns cs h

theorem Own.lit (w : World) (cs : Array Value) (bs : List UInt8) (n base : Nat) (hn : bs.length = n) (h : cs = (bvs bs).toArray) (hl : n ≤ 1073741000) (hB : base ≤ w.heap.size) : Own (w.alloc (.cells cs 5)) base (some ⟨w.heap.size, 0, none⟩) n n bs := by
  subst hn h
  refine ⟨rfl, hl, ?_⟩
  unfold OB World.ownsRow
  refine ⟨by simp [bvs], .inr ⟨w.heap.size, bs.length, (bvs bs).toArray, rfl, hB, heap_alloc_new w _, Nat.le_refl _, by unfold maxLen; omega, by simp [bvs], ?_⟩⟩
  rw [List.take_of_length_le (by simp [bvs])]
theorem byte_int (n : Int) (h0 : 0 ≤ n) (h : n < 256) : ((UInt8.ofNat (n.toNat % 256)).toNat : Int) = n := by simp; omega
theorem pad_next (bs : List UInt8) (j : Nat) : bs ++ List.replicate j 0 ++ [0] = bs ++ List.replicate (j + 1) 0 := by
  rw [List.append_assoc, List.replicate_succ']
def lenV : Value → Nat
  | .slice _ n _ => n
  | _ => 0

end Go.Proofs.Ytncjfljmnkfghaa

namespace Go.Proofs.Ytncjfljmnkfghaa
open Go.RowKit
theorem ref2_sum (A : Option Addr) (bs : List UInt8) (n c : Nat) (hn : n = bs.length) (B : Nat) (w : World) (hb : RB w B A bs) (hl : bs.length ≤ 1073741824) :
    Calls Try.prog 45 #[.slice A n c] w fun e w' => e = .returned (.int .i64 (crcN bs : Nat)) ∧ w = w' := by
  subst hn
  obtain ⟨r0, hr0⟩ : ∃ r0 : Nat, r0 = 4294967295 := ⟨_, rfl⟩
  have hr0l : r0 < 2 ^ 32 := by omega
  have hr0i : (4294967295 : Int) = (r0 : Int) := by omega
  have hfin : (r0 : Int) - ((crcMore r0 bs : Nat) : Int) = ((crcN bs : Nat) : Int) := by
    have := crcMore_lt hr0l bs
    unfold crcN
    rw [← hr0]
    omega
  have hmr := crcMore_lt hr0l bs
  have HF := Lib.hid hfin
  have HR := Lib.hid hr0i
  clear hfin hr0 hr0i
  go_enter Try.func45, Try.ntmps45
  go_wp2_with fail
  rw [HR.out]
  refine (ref2_more r0 hr0l A bs bs.length c rfl B w hb hl).mono ?_
  rintro e w1 ⟨rfl, rfl⟩
  obtain ⟨q, hq⟩ : ∃ q, q = crcMore r0 bs := ⟨_, rfl⟩
  rw [← hq] at hmr HF ⊢
  clear hq
  go_wp2_with fail
  go_ret
  refine ⟨ret_int ?_, rfl⟩
  rw [← HF.out, ← HR.out]

end Go.Proofs.Ytncjfljmnkfghaa
