/- The walk of the statement ClogRound. -/
import Derived.Test.YtnbgkkjhmdfmiaaDec
import Derived.Test.YtnbgkkjhmdfmiaaLawEnc
namespace Go.Proofs.Ytnbgkkjhmdfmiaa
open Go.RowKit

theorem clog_decode_enc {A : Option Addr} {n c k : Nat} {call inode off : Int} {tr : Bool} {s : ByteArray} {q : List UInt8} {w : World} (hm : mayR call inode tr off s.size = true) (hs : Sl w A n (encB call inode tr off s.data.toList ++ q)) (hc : n ≤ c) (hk : (encB call inode tr off s.data.toList).length = k) :
    Calls Try.prog 17 #[.slice A n c] w fun e w' => e = .returned (.tuple #[.agg #[.int .i64 call, .int .i64 inode, .bool tr, .int .i64 off, .string s], .int .i64 (k : Nat), .int .i64 0]) ∧ Grow w w' := by
  obtain ⟨h1, h2, h3, h4, h5, h6, h7⟩ := dec_enc (q := q) (show mayR call inode tr off s.data.toList.length = true by rw [data_length]; exact hm)
  refine (clog_decode hs hc).mono ?_
  rintro e w' ⟨rfl, g⟩
  refine ⟨?_, g⟩
  rw [recW, if_pos h1, decL, if_pos h1, h1, h2, h3, h4, h5, h6, h7, hk]

theorem enc_len8 (call inode off : Int) (tr : Bool) (s : List UInt8) : (encB call inode tr off s).length % 8 = 0 := by
  rw [encB_length, fillN]
  omega

set_option maxHeartbeats 1000000 in
theorem law_ClogRound (call inode off : Int) (tr : Bool) (s : ByteArray) (A : Option Addr) (n c : Nat) (bs : List UInt8) (W : World) (hn0 : bs.length = n) (hr0 : RB W W.heap.size A bs) (hc0 : n ≤ c) :
    Calls Try.prog 6 #[.agg #[.int .i64 call, .int .i64 inode, .bool tr, .int .i64 off, .string s], .slice A n c] W fun e w' => e = .returned (.bool true) ∧ Below W.heap.size W w' := by
  have HN0 := Lib.hid hn0
  clear hn0
  have hR0 := RecAt.new W 31 call inode off tr s
  go_enter Try.func6, Try.ntmps6
  go_wp2_with fail
  refine (cut16 call inode off tr s _).mono ?_
  rintro e w1 ⟨⟨s', hs', rfl⟩, hb1⟩
  obtain ⟨k0, k1, k2, k3, k4⟩ := hR0.below hb1 (by simp)
  clear hR0
  have fz : ∀ i, w1.frozen? ⟨W.heap.size, i, none⟩ = false := by
    intro i
    rw [hb1.frozen (p := ⟨W.heap.size, i, none⟩) (by simp)]
    simp only [World.frozen?, heap_alloc_new]
    simp
  have f0 := fz 0
  have f1 := fz 1
  have f2 := fz 2
  have f3 := fz 3
  have f4 := fz 4
  clear fz
  go_wp2_with fail
  have hR2 : RecAt (((((w1.setCell ⟨W.heap.size, 0, none⟩ (.int .i64 call)).setCell ⟨W.heap.size, 1, none⟩ (.int .i64 inode)).setCell ⟨W.heap.size, 2, none⟩ (.bool tr)).setCell ⟨W.heap.size, 3, none⟩ (.int .i64 off)).setCell ⟨W.heap.size, 4, none⟩ (.string s')) W.heap.size call inode tr off s' := by
    constructor <;> go_simp
  have hbW : Grow W (((((w1.setCell ⟨W.heap.size, 0, none⟩ (.int .i64 call)).setCell ⟨W.heap.size, 1, none⟩ (.int .i64 inode)).setCell ⟨W.heap.size, 2, none⟩ (.bool tr)).setCell ⟨W.heap.size, 3, none⟩ (.int .i64 off)).setCell ⟨W.heap.size, 4, none⟩ (.string s')) :=
    ((((((((Below.refl _ _).alloc (Nat.le_refl _) _).trans (hb1.mono (by simp))).setCell (Nat.le_refl _) _).setCell (Nat.le_refl _) _).setCell (Nat.le_refl _) _).setCell (Nat.le_refl _) _).setCell (Nat.le_refl _) _)
  have hsz : W.heap.size < ((((((w1.setCell ⟨W.heap.size, 0, none⟩ (.int .i64 call)).setCell ⟨W.heap.size, 1, none⟩ (.int .i64 inode)).setCell ⟨W.heap.size, 2, none⟩ (.bool tr)).setCell ⟨W.heap.size, 3, none⟩ (.int .i64 off)).setCell ⟨W.heap.size, 4, none⟩ (.string s'))).heap.size := by have := hb1.size; simp at this ⊢; omega
  obtain ⟨w2, hw2⟩ : ∃ w2, w2 = (((((w1.setCell ⟨W.heap.size, 0, none⟩ (.int .i64 call)).setCell ⟨W.heap.size, 1, none⟩ (.int .i64 inode)).setCell ⟨W.heap.size, 2, none⟩ (.bool tr)).setCell ⟨W.heap.size, 3, none⟩ (.int .i64 off)).setCell ⟨W.heap.size, 4, none⟩ (.string s')) := ⟨_, rfl⟩
  rw [← hw2] at hR2 hbW hsz ⊢
  clear hw2 k0 k1 k2 k3 k4 f0 f1 f2 f3 f4 hb1
  cases hm : mayR call inode tr off s'.size with
  | true =>
    have hn : s'.size ≤ 64 := (mayR_iff.1 hm).2.2.2.2.2.2.1
    obtain ⟨k, hk⟩ : ∃ k, (encB call inode tr off s'.data.toList).length = k := ⟨_, rfl⟩
    have hel : k ≤ 1000 := by
      have := fill_lt (17 + s'.data.toList.length)
      rw [← hk, encB_length]
      simp only [data_length] at this ⊢
      omega
    have hk8 : k % 8 = 0 := by rw [← hk]; exact enc_len8 _ _ _ _ _
    have hkr : Int.tmod (k : Int) 8 = 0 := by rw [Int.tmod_eq_emod_of_nonneg (by omega)]; omega
    have HK := Lib.hid hk
    have HM := Lib.hid hm
    clear hk hm hk8
    refine (clog_encode_yes call inode off tr s' HM.out _).mono ?_
    rintro e w3 ⟨v3, rfl, hown3, hb3⟩
    obtain ⟨A3, c3, rfl, hw3⟩ := Own.ofOB hown3 k HK.out (by omega)
    have hs3 := hw3.sl
    have hR3 := hR2.below hb3 hsz
    have G3 : Grow W w3 := hbW.trans hb3
    have hz3 : W.heap.size < w3.heap.size := Nat.lt_of_lt_of_le hsz (Below.size hb3)
    clear hR2 hown3 hw3 hb3 hsz hbW
    by_cases h40 : 40 < n
    · obtain ⟨b1, hb1⟩ : ∃ b, b = bs.take 40 := ⟨_, rfl⟩
      have hs : Sl W A 40 b1 := by rw [hb1]; exact Sl.ofTake hr0 (n := 40) (by rw [HN0.out]; omega) (by omega)
      have hc : 40 ≤ c := by omega
      clear hb1 hr0
      have hs3' := hs.keep G3
      go_wp2_with ((first
        | (at_builtin; refine wpList_appB rfl (.tmp 31) (.tmp 32) rfl w3.heap.size _ [] rfl (OB.nil w3 _) w3.heap.size A3 c3 _ k HK.out.symm rfl hs3.2.2 (by rw [HK.out]; simp; omega) (Nat.le_refl _) ?_; intro v5 w5 hown5 hb5 p1 p2; clear p1 p2)
        | (at_builtin; refine wpList_appB rfl (.tmp 34) (.tmp 35) rfl w3.heap.size _ _ rfl hown5 w5.heap.size A c b1 40 hs.1.symm rfl (hs3'.keep hb5).2.2 (by rw [List.nil_append, HK.out, hs.1]; omega) (Below.size hb5) ?_; intro v6 w6 hown6 hb6 p1 p2; clear p1 p2)))
      rw [List.nil_append] at hown6
      obtain ⟨A6, c6, rfl, hw6⟩ := Own.ofOB hown6 (k + 40) (by rw [List.length_append, HK.out, hs.1]) (by omega)
      have hR6 := (hR3.below hb5 hz3).below hb6 hz3
      have G6 : Grow W w6 := G3.low ((Below.trans hb5 hb6).mono (by omega))
      have hz6 : W.heap.size < w6.heap.size := by have := Below.size hb5; have := Below.size hb6; omega
      clear hR3 hown5 hown6 hb5 hb6 hs3 hs3' G3
      refine (clog_decode_enc HM.out hw6.sl hw6.cap HK.out).mono ?_
      rintro e w7 ⟨rfl, g7⟩
      have hR7 := (hR6.below g7 hz6)
      have G7 := G6.trans g7
      have k0 := cell_alloc (o := .cells (List.toArray [.int .i64 call, .int .i64 inode, .bool tr, .int .i64 off, .string s']) 31 (0, 0)) hR7.c0
      have k1 := cell_alloc (o := .cells (List.toArray [.int .i64 call, .int .i64 inode, .bool tr, .int .i64 off, .string s']) 31 (0, 0)) hR7.c1
      have k2 := cell_alloc (o := .cells (List.toArray [.int .i64 call, .int .i64 inode, .bool tr, .int .i64 off, .string s']) 31 (0, 0)) hR7.c2
      have k3 := cell_alloc (o := .cells (List.toArray [.int .i64 call, .int .i64 inode, .bool tr, .int .i64 off, .string s']) 31 (0, 0)) hR7.c3
      have k4 := cell_alloc (o := .cells (List.toArray [.int .i64 call, .int .i64 inode, .bool tr, .int .i64 off, .string s']) 31 (0, 0)) hR7.c4
      have K4 := Blk.new w7 31 [.int .i64 call, .int .i64 inode, .bool tr, .int .i64 off, .string s'] _ (0, 0) rfl
      have t0 := K4.2 0 _ rfl; have t1 := K4.2 1 _ rfl; have t2 := K4.2 2 _ rfl; have t3 := K4.2 3 _ rfl; have t4 := K4.2 4 _ rfl
      clear K4 hR6 hR7 G6
      go_wp2_with fail
      refine (lives16_any _).mono ?_
      rintro e w8 ⟨rfl, rfl⟩
      clear k0 k1 k2 k3 k4 t0 t1 t2 t3 t4
      go_wp2_with fail
      go_ret
      exact ⟨rfl, G7.alloc _⟩
    · have hs : Sl W A n bs := Sl.ofRB hr0 HN0.out (by omega)
      have hc : n ≤ c := hc0
      have hn40 : n ≤ 40 := by omega
      clear hr0 hc0
      have hs3' := hs.keep G3
      go_wp2_with ((first
        | (at_builtin; refine wpList_appB rfl (.tmp 31) (.tmp 32) rfl w3.heap.size _ [] rfl (OB.nil w3 _) w3.heap.size A3 c3 _ k HK.out.symm rfl hs3.2.2 (by rw [HK.out]; simp; omega) (Nat.le_refl _) ?_; intro v5 w5 hown5 hb5 p1 p2; clear p1 p2)
        | (at_builtin; refine wpList_appB rfl (.tmp 34) (.tmp 35) rfl w3.heap.size _ _ rfl hown5 w5.heap.size A c bs n hs.1.symm rfl (hs3'.keep hb5).2.2 (by rw [List.nil_append, HK.out, hs.1]; omega) (Below.size hb5) ?_; intro v6 w6 hown6 hb6 p1 p2; clear p1 p2)))
      rw [List.nil_append] at hown6
      obtain ⟨A6, c6, rfl, hw6⟩ := Own.ofOB hown6 (k + n) (by rw [List.length_append, HK.out, hs.1]) (by omega)
      have hR6 := (hR3.below hb5 hz3).below hb6 hz3
      have G6 : Grow W w6 := G3.low ((Below.trans hb5 hb6).mono (by omega))
      have hz6 : W.heap.size < w6.heap.size := by have := Below.size hb5; have := Below.size hb6; omega
      clear hR3 hown5 hown6 hb5 hb6 hs3 hs3' G3
      refine (clog_decode_enc HM.out hw6.sl hw6.cap HK.out).mono ?_
      rintro e w7 ⟨rfl, g7⟩
      have hR7 := (hR6.below g7 hz6)
      have G7 := G6.trans g7
      have k0 := cell_alloc (o := .cells (List.toArray [.int .i64 call, .int .i64 inode, .bool tr, .int .i64 off, .string s']) 31 (0, 0)) hR7.c0
      have k1 := cell_alloc (o := .cells (List.toArray [.int .i64 call, .int .i64 inode, .bool tr, .int .i64 off, .string s']) 31 (0, 0)) hR7.c1
      have k2 := cell_alloc (o := .cells (List.toArray [.int .i64 call, .int .i64 inode, .bool tr, .int .i64 off, .string s']) 31 (0, 0)) hR7.c2
      have k3 := cell_alloc (o := .cells (List.toArray [.int .i64 call, .int .i64 inode, .bool tr, .int .i64 off, .string s']) 31 (0, 0)) hR7.c3
      have k4 := cell_alloc (o := .cells (List.toArray [.int .i64 call, .int .i64 inode, .bool tr, .int .i64 off, .string s']) 31 (0, 0)) hR7.c4
      have K4 := Blk.new w7 31 [.int .i64 call, .int .i64 inode, .bool tr, .int .i64 off, .string s'] _ (0, 0) rfl
      have t0 := K4.2 0 _ rfl; have t1 := K4.2 1 _ rfl; have t2 := K4.2 2 _ rfl; have t3 := K4.2 3 _ rfl; have t4 := K4.2 4 _ rfl
      clear K4 hR6 hR7 G6
      go_wp2_with fail
      refine (lives16_any _).mono ?_
      rintro e w8 ⟨rfl, rfl⟩
      clear k0 k1 k2 k3 k4 t0 t1 t2 t3 t4
      go_wp2_with fail
      go_ret
      exact ⟨rfl, G7.alloc _⟩
  | false =>
    have HM := Lib.hid hm
    clear hm
    refine (clog_encode_no call inode off tr s' HM.out _).mono ?_
    rintro e w3 ⟨rfl, hb3⟩
    have G3 : Grow W w3 := hbW.trans hb3
    clear hR2
    go_wp2_with fail
    refine (lives16_any _).mono ?_
    rintro e w6 ⟨rfl, rfl⟩
    go_wp2_with fail
    go_ret
    exact ⟨rfl, G3⟩
end Go.Proofs.Ytnbgkkjhmdfmiaa
