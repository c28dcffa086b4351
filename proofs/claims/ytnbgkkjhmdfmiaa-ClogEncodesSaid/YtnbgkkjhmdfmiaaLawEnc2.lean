/- The walk of the statement ClogEncodes: the law. NOT YET PROVED. -/
import Derived.Test.YtnbgkkjhmdfmiaaLawEnc
namespace Go.Proofs.Ytnbgkkjhmdfmiaa
open Go.RowKit

theorem law_ClogEncodes (call inode off : Int) (tr : Bool) (s : ByteArray) (W : World) :
    Calls Try.prog 4 #[.agg #[.int .i64 call, .int .i64 inode, .bool tr, .int .i64 off, .string s]] W fun e w' => e = .returned (.bool true) ∧ Below W.heap.size W w' := by
  go_enter Try.func4, Try.ntmps4
  go_wp2_with fail
  refine (cut16 call inode off tr s _).mono ?_
  rintro e w1 ⟨⟨s', hs', rfl⟩, hb1⟩
  have hR := (RecAt.new W 31 call inode off tr s).below hb1 (by simp)
  obtain ⟨k0, k1, k2, k3, k4⟩ := hR
  have fz : ∀ i, w1.frozen? ⟨W.heap.size, i, none⟩ = false := by
    intro i
    rw [hb1.frozen (p := ⟨W.heap.size, i, none⟩) (by simp)]
    simp only [World.frozen?, heap_alloc_new]
    simp
  have f0 := fz 0
  have f1 := fz 1
  have f2 := fz 2
  have f3 := fz 3
  have f4 := fz 4
  clear fz
  go_wp2_with fail
  have hR2 : RecAt (((((w1.setCell ⟨W.heap.size, 0, none⟩ (.int .i64 call)).setCell ⟨W.heap.size, 1, none⟩ (.int .i64 inode)).setCell ⟨W.heap.size, 2, none⟩ (.bool tr)).setCell ⟨W.heap.size, 3, none⟩ (.int .i64 off)).setCell ⟨W.heap.size, 4, none⟩ (.string s')) W.heap.size call inode tr off s' := by
    constructor <;> go_simp
  have hbW : Below W.heap.size W (((((w1.setCell ⟨W.heap.size, 0, none⟩ (.int .i64 call)).setCell ⟨W.heap.size, 1, none⟩ (.int .i64 inode)).setCell ⟨W.heap.size, 2, none⟩ (.bool tr)).setCell ⟨W.heap.size, 3, none⟩ (.int .i64 off)).setCell ⟨W.heap.size, 4, none⟩ (.string s')) :=
    ((((((((Below.refl _ _).alloc (Nat.le_refl _) _).trans (hb1.mono (by simp))).setCell (Nat.le_refl _) _).setCell (Nat.le_refl _) _).setCell (Nat.le_refl _) _).setCell (Nat.le_refl _) _).setCell (Nat.le_refl _) _)
  have hsz : W.heap.size < (((((w1.setCell ⟨W.heap.size, 0, none⟩ (.int .i64 call)).setCell ⟨W.heap.size, 1, none⟩ (.int .i64 inode)).setCell ⟨W.heap.size, 2, none⟩ (.bool tr)).setCell ⟨W.heap.size, 3, none⟩ (.int .i64 off)).setCell ⟨W.heap.size, 4, none⟩ (.string s')).heap.size := by have := hb1.size; simp at this ⊢; omega
  obtain ⟨w2, hw2⟩ : ∃ w2, w2 = (((((w1.setCell ⟨W.heap.size, 0, none⟩ (.int .i64 call)).setCell ⟨W.heap.size, 1, none⟩ (.int .i64 inode)).setCell ⟨W.heap.size, 2, none⟩ (.bool tr)).setCell ⟨W.heap.size, 3, none⟩ (.int .i64 off)).setCell ⟨W.heap.size, 4, none⟩ (.string s')) := ⟨_, rfl⟩
  rw [← hw2] at hR2 hbW hsz ⊢
  clear hw2 k0 k1 k2 k3 k4 f0 f1 f2 f3 f4 hb1
  cases hm : mayR call inode tr off s'.size with
  | true =>
    have hn : s'.size ≤ 64 := (mayR_iff.1 hm).2.2.2.2.2.2.1
    obtain ⟨eb, heb⟩ : ∃ eb, eb = encB call inode tr off s'.data.toList := ⟨_, rfl⟩
    have hel : eb.length ≤ 1000 := by
      have := fill_lt (17 + s'.data.toList.length)
      rw [heb, encB]
      simp only [List.length_append, List.length_replicate, headB_length, leB_length, data_length] at this ⊢
      omega
    have HE := Lib.hid heb
    have HM := Lib.hid hm
    clear heb hm
    refine (clog_encode_yes call inode off tr s' HM.out _).mono ?_
    rintro e w3 ⟨v3, rfl, hown3, hb3⟩
    rw [← HE.out] at hown3
    obtain ⟨k0, k1, k2, k3, k4⟩ := hR2.below hb3 hsz
    obtain ⟨A3, c3, rfl, -, -, hrd3, -⟩ := hown3.form
    clear hR2 hown3
    go_wp2_with fail
    refine (ref16_encode_yes call inode off tr s' HM.out _).mono ?_
    rintro e w4 ⟨v4, rfl, hown4, hb4⟩
    rw [← HE.out] at hown4
    obtain ⟨A4, c4, rfl, -, -, hrd4, -⟩ := hown4.form
    clear k0 k1 k2 k3 k4 hown4
    go_wp2_with fail
    refine (ref1_same' A3 A4 eb eb _ _ c3 c4 _ _ _ rfl rfl (hrd3.below hb4) hrd4 (by omega) (by omega)).mono ?_
    rintro e w5 ⟨rfl, k, rfl⟩
    rw [decide_eq_true (rfl : eb = eb)]
    go_wp2_with fail
    refine (lives16_any _).mono ?_
    rintro e w6 ⟨rfl, rfl⟩
    go_wp2_with fail
    go_ret
    exact ⟨rfl, below_drewN ((hbW.trans (hb3.mono (by omega))).trans (hb4.mono (by have := hb3.size; omega))) k⟩
  | false =>
    have HM := Lib.hid hm
    clear hm
    refine (clog_encode_no call inode off tr s' HM.out _).mono ?_
    rintro e w3 ⟨rfl, hb3⟩
    obtain ⟨k0, k1, k2, k3, k4⟩ := hR2.below hb3 hsz
    clear hR2
    go_wp2_with fail
    refine (ref16_encode_no call inode off tr s' HM.out _).mono ?_
    rintro e w4 ⟨rfl, hb4⟩
    clear k0 k1 k2 k3 k4
    go_wp2_with fail
    refine (ref1_same' none none [] [] 0 0 0 0 0 0 _ rfl rfl RB.nil_ RB.nil_ (by simp) (by simp)).mono ?_
    rintro e w5 ⟨rfl, k, rfl⟩
    rw [decide_eq_true (rfl : ([] : List UInt8) = [])]
    go_wp2_with fail
    refine (lives16_any _).mono ?_
    rintro e w6 ⟨rfl, rfl⟩
    go_wp2_with fail
    go_ret
    exact ⟨rfl, below_drewN ((hbW.trans (hb3.mono (by omega))).trans (hb4.mono (by have := hb3.size; omega))) k⟩
end Go.Proofs.Ytnbgkkjhmdfmiaa
