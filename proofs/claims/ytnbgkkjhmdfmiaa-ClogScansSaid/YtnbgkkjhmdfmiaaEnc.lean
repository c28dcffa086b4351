/- clog.Encode. -/
import Derived.Test.YtnbgkkjhmdfmiaaMay
import Derived.Test.YtnbgkkjhmdfmiaaApp
import Derived.Test.YtnbgkkjhmdfmiaaNumUp
import Derived.Test.YtnbgkkjhmdfmiaaCrcSum
import Derived.Test.YtnbgkkjhmdfmiaaStd
import Derived.Deep.RegionWith
namespace Go.Proofs.Ytnbgkkjhmdfmiaa
open Go.RowKit

theorem clog_numbers' (A : Option Addr) (bs : List UInt8) (l c : Nat) (hll : l = bs.length) (x : Int) (b o m lc : Nat) (ns : List Int) (hmm : m = ns.length) (hns : ∀ n ∈ ns, -9223372036854775808 ≤ n ∧ n ≤ 9223372036854775807) (hpos : 0 < ns.length) (hsm : ns.length ≤ 8)
    (w : World) (hr : RB w w.heap.size A bs) (hl : bs.length ≤ 1073741000) (hbw : b < w.heap.size) (hL : ∀ j (h : j < ns.length), w.cell? ⟨b, o + j, none⟩ = some (.int .i64 ns[j])) :
    Calls Try.prog 26 #[.slice A l c, .int .i64 x, .slice (some ⟨b, o, none⟩) m lc] w fun e w' => ∃ v, e = .returned v ∧ OB w' w.heap.size v (putsB bs x ns) ∧ Below w.heap.size w w' := by
  subst hll
  subst hmm
  exact clog_numbers A bs c x b o lc ns hns hpos hsm w hr hl hbw hL

/-- A record lies in block g. -/
structure RecAt (w : World) (g : Nat) (call inode : Int) (tr : Bool) (off : Int) (s : ByteArray) : Prop where
  c0 : w.cell? ⟨g, 0, none⟩ = some (.int .i64 call)
  c1 : w.cell? ⟨g, 1, none⟩ = some (.int .i64 inode)
  c2 : w.cell? ⟨g, 2, none⟩ = some (.bool tr)
  c3 : w.cell? ⟨g, 3, none⟩ = some (.int .i64 off)
  c4 : w.cell? ⟨g, 4, none⟩ = some (.string s)

theorem puts1 {n x : Int} (h : fitsB n x = true) (bs : List UInt8) : putsB bs x [n] = bs ++ leB n.toNat x.toNat := putB_fits h
theorem puts2 {n k x : Int} (h : fitsB n x = true) (h' : fitsB k x = true) (bs : List UInt8) : putsB bs x [n, k] = bs ++ leB n.toNat x.toNat ++ leB k.toNat x.toNat := by
  rw [show putsB bs x [n, k] = putB (putB bs n x) k x from rfl, putB_fits h, putB_fits h']
theorem up_fill (n : Nat) (h : n ≤ 1000000) : upN (n : Int) 8 = (n : Int) + (fillN n : Nat) := by
  have hm : mayB (n : Int) 8 = true := by rw [may_iff]; omega
  rw [upN, if_pos hm, fillN]
  omega
theorem fill_lt (n : Nat) : fillN n < 8 := by unfold fillN; omega

theorem clog_bit' (b : Bool) (z : Int) (h : z = if b then 1 else 0) (w : World) : Calls Try.prog 27 #[.bool b] w fun e w' => e = .returned (.int .i64 z) ∧ w = w' := by
  subst h
  exact clog_bit b w

theorem RB.drew {w : World} {B : Nat} {A : Option Addr} {bs : List UInt8} (h : RB w B A bs) : RB w.drew B A bs := h

theorem RecAt.below {w w' : World} {B g : Nat} {call inode off : Int} {tr : Bool} {s : ByteArray} (h : RecAt w g call inode tr off s) (hb : Below B w w') (hg : g < B) : RecAt w' g call inode tr off s :=
  ⟨(hb.cell (p := ⟨g, 0, none⟩) hg).trans h.c0, (hb.cell (p := ⟨g, 1, none⟩) hg).trans h.c1, (hb.cell (p := ⟨g, 2, none⟩) hg).trans h.c2, (hb.cell (p := ⟨g, 3, none⟩) hg).trans h.c3, (hb.cell (p := ⟨g, 4, none⟩) hg).trans h.c4⟩

theorem RecAt.new (w : World) (t : TypeId) (call inode off : Int) (tr : Bool) (s : ByteArray) : RecAt (w.alloc (.cells #[.int .i64 call, .int .i64 inode, .bool tr, .int .i64 off, .string s] t)) w.heap.size call inode tr off s := by
  constructor <;> (rw [cell_of_row _ _ _ _ t (0, 0) (heap_alloc_new w _)]; rfl)

theorem clog_encode_no (call inode off : Int) (tr : Bool) (s : ByteArray) (hm : mayR call inode tr off s.size = false) (w : World) :
    Calls Try.prog 14 #[.agg #[.int .i64 call, .int .i64 inode, .bool tr, .int .i64 off, .string s]] w fun e w' => e = .returned (.tuple #[.slice none 0 0, .int .i64 1]) ∧ Below w.heap.size w w' := by
  have HM := Lib.hid hm
  clear hm
  go_enter Try.func14, Try.ntmps14
  go_wp2_with fail
  refine (files_may call inode off tr s _).mono ?_
  rintro e w1 ⟨rfl, hb1⟩
  rw [HM.out]
  go_wp2_with fail
  go_ret2
  exact ⟨rfl, ((Below.refl _ _).alloc (Nat.le_refl _) _).trans (hb1.mono (by simp))⟩

set_option maxHeartbeats 4000000 in
theorem clog_encode_yes (call inode off : Int) (tr : Bool) (s : ByteArray) (hm : mayR call inode tr off s.size = true) (w : World) :
    Calls Try.prog 14 #[.agg #[.int .i64 call, .int .i64 inode, .bool tr, .int .i64 off, .string s]] w fun e w' => ∃ v, e = .returned (.tuple #[v, .int .i64 0]) ∧ OB w' w.heap.size v (encB call inode tr off s.data.toList) ∧ Below w.heap.size w w' := by
  obtain ⟨m1, m2, m3, m4, m5, m6, m7, m8, -⟩ := mayR_iff.1 hm
  have HM := Lib.hid hm
  clear hm
  go_enter Try.func14, Try.ntmps14
  go_wp2_with fail
  refine (files_may call inode off tr s _).mono ?_
  rintro e w1 ⟨rfl, hb1⟩
  rw [HM.out]
  obtain ⟨B0, hB0⟩ : ∃ B0, B0 = w.heap.size + 1 := ⟨_, rfl⟩
  have hbW : Below B0 (w.alloc (.cells #[.int .i64 call, .int .i64 inode, .bool tr, .int .i64 off, .string s] 31)) w1 := hb1.mono (by simp [hB0])
  have hz1 : B0 ≤ w1.heap.size := by have := hb1.size; simp at this; omega
  have hR0 := RecAt.new w 31 call inode off tr s
  have hgB : w.heap.size < B0 := by omega
  have HB0 := Lib.hid hB0
  clear hB0 hb1
  obtain ⟨k0, k1, k2, k3, k4⟩ := hR0.below hbW hgB
  have HR0 := Lib.hid hR0
  clear hR0
  go_wp2_with fail
  refine (clog_numbers' none [] 0 0 rfl 8 w1.heap.size 0 1 1 [call] rfl (by simp; omega) (by simp) (by simp) _ RB.nil_ (by simp) (by simp) (ints_new w1 _ [call] _ rfl)).mono ?_
  rintro e w2 ⟨v2, rfl, hown2, hb2⟩
  clear k0 k1 k2 k3 k4
  replace hb2 : Below B0 w1 w2 := ((Below.refl _ _).alloc hz1 _).trans (hb2.mono (by simp; omega))
  replace hown2 : OB w2 B0 v2 (leB call.toNat 8) := by
    have e : putsB [] 8 [call] = leB call.toNat 8 := by simp [putsB, putB, fitsB, m1]
    rw [e] at hown2
    exact hown2.lower (by simp; omega)
  replace hbW := hbW.trans hb2
  clear hb2 hz1
  have hz2 : B0 ≤ w2.heap.size := by have := hbW.size; simp at this; have := HB0.out; omega
  obtain ⟨k0, k1, k2, k3, k4⟩ := HR0.out.below hbW hgB
  obtain ⟨A2, c2, rfl, -, -, hrd2, -⟩ := hown2.form
  obtain ⟨b2, hd2⟩ : ∃ b2, b2 = leB call.toNat 8 := ⟨_, rfl⟩
  rw [← hd2] at hown2 hrd2 ⊢
  have hl2 : b2.length = 8 := by rw [hd2, leB_length]
  have HD2 := Lib.hid hd2
  have HL2 := Lib.hid hl2
  clear hd2 hl2
  go_wp2_with fail
  obtain ⟨tb, htb⟩ : ∃ tb : Int, tb = if tr then 1 else 0 := ⟨_, rfl⟩
  have ht0 : 0 ≤ tb ∧ tb ≤ 1 := by rw [htb]; cases tr <;> simp
  have HTB := Lib.hid htb
  have HT0 := Lib.hid ht0
  clear htb ht0
  have E3 := Lib.hid (puts2 (n := inode) (k := tb) (x := 1) (by simp [fitsB]; omega) (by have := HT0.out; simp [fitsB]; omega))
  have E4 := Lib.hid (puts1 (n := off) (x := 2) (by simp [fitsB]; omega))
  have E5 := Lib.hid (puts1 (n := (s.size : Int)) (x := 1) (by simp [fitsB]; omega))
  go_region_with (first
    | (go_at_call 27; refine (clog_bit' tr tb HTB.out _).mono ?_; rintro e w' ⟨rfl, rfl⟩)
    | (go_at_call 26; refine (clog_numbers' A2 b2 _ c2 rfl 1 _ 0 2 2 [inode, tb] rfl (by intro n hn; simp at hn; have := HT0.out; rcases hn with rfl | rfl <;> omega) (by simp) (by simp) _ ((hrd2.alloc (Nat.le_refl _) _).drew.more (by simp)) (by have := HL2.out; omega) (by simp) (ints_new w2 _ [inode, tb] _ rfl)).mono ?_; rintro e w3 ⟨v3, rfl, hown3, hb3⟩))
  all_goals
    clear k0 k1 k2 k3 k4
    rw [E3.out] at hown3
    replace hb3 : Below B0 w2 w3 := ((Below.refl _ _).alloc hz2 _).drew.trans (hb3.mono (by simp; omega))
    replace hown3 := hown3.lower (base := B0) (by simp; omega)
    replace hbW := hbW.trans hb3
    clear hb3 hz2 hown2 hrd2
    have hz3 : B0 ≤ w3.heap.size := by have := hbW.size; simp at this; have := HB0.out; omega
    obtain ⟨k0, k1, k2, k3, k4⟩ := HR0.out.below hbW hgB
    obtain ⟨A3, c3, rfl, -, -, hrd3, -⟩ := hown3.form
    obtain ⟨b3, hd3⟩ : ∃ b3, b3 = b2 ++ leB inode.toNat (Int.toNat 1) ++ leB tb.toNat (Int.toNat 1) := ⟨_, rfl⟩
    rw [← hd3] at hown3 hrd3 ⊢
    have hl3 : b3.length = 10 := by rw [hd3]; simp [leB_length, HL2.out]
    have HD3 := Lib.hid hd3
    have HL3 := Lib.hid hl3
    clear hd3 hl3
    go_wp2_with fail
    refine (clog_numbers' A3 b3 _ c3 rfl 2 _ 0 1 1 [off] rfl (by simp; omega) (by simp) (by simp) _ ((hrd3.alloc (Nat.le_refl _) _).more (by simp)) (by have := HL3.out; omega) (by simp) (ints_new w3 _ [off] _ rfl)).mono ?_
    rintro e w4 ⟨v4, rfl, hown4, hb4⟩
    clear k0 k1 k2 k3 k4
    rw [E4.out] at hown4
    replace hb4 : Below B0 w3 w4 := ((Below.refl _ _).alloc hz3 _).trans (hb4.mono (by simp; omega))
    replace hown4 := hown4.lower (base := B0) (by simp; omega)
    replace hbW := hbW.trans hb4
    clear hb4 hz3 hown3 hrd3
    have hz4 : B0 ≤ w4.heap.size := by have := hbW.size; simp at this; have := HB0.out; omega
    obtain ⟨k0, k1, k2, k3, k4⟩ := HR0.out.below hbW hgB
    obtain ⟨A4, c4, rfl, -, -, hrd4, -⟩ := hown4.form
    obtain ⟨b4, hd4⟩ : ∃ b4, b4 = b3 ++ leB off.toNat (Int.toNat 2) := ⟨_, rfl⟩
    rw [← hd4] at hown4 hrd4 ⊢
    have hl4 : b4.length = 12 := by rw [hd4]; simp [leB_length, HL3.out]
    have HD4 := Lib.hid hd4
    have HL4 := Lib.hid hl4
    clear hd4 hl4
    go_wp2_with fail
    refine (clog_numbers' A4 b4 _ c4 rfl 1 _ 0 1 1 [(s.size : Int)] rfl (by simp; omega) (by simp) (by simp) _ ((hrd4.alloc (Nat.le_refl _) _).more (by simp)) (by have := HL4.out; omega) (by simp) (ints_new w4 _ [(s.size : Int)] _ rfl)).mono ?_
    rintro e w5 ⟨v5, rfl, hown5, hb5⟩
    clear k0 k1 k2 k3 k4
    rw [E5.out] at hown5
    replace hb5 : Below B0 w4 w5 := ((Below.refl _ _).alloc hz4 _).trans (hb5.mono (by simp; omega))
    replace hown5 := hown5.lower (base := B0) (by simp; omega)
    replace hbW := hbW.trans hb5
    clear hb5 hz4 hown4 hrd4
    have hz5 : B0 ≤ w5.heap.size := by have := hbW.size; simp at this; have := HB0.out; omega
    obtain ⟨k0, k1, k2, k3, k4⟩ := HR0.out.below hbW hgB
    obtain ⟨A5, c5, rfl, -, -, hrd5, -⟩ := hown5.form
    obtain ⟨b5, hd5⟩ : ∃ b5, b5 = b4 ++ leB (s.size : Int).toNat (Int.toNat 1) := ⟨_, rfl⟩
    rw [← hd5] at hown5 hrd5 ⊢
    have hl5 : b5.length = 13 := by rw [hd5]; simp [leB_length, HL4.out]
    have HD5 := Lib.hid hd5
    have HL5 := Lib.hid hl5
    clear hd5 hl5
    go_wp2_with (at_builtin; refine wpList_appS rfl (.tmp 31) (.tmp 33) rfl B0 _ b5 rfl hown5 s rfl (by have := HL5.out; omega) hz5 ?_; intro v6 w6 hown6 hb6)
    clear k0 k1 k2 k3 k4 hown5 hrd5
    obtain ⟨A6, c6, rfl, -, -, hrd6, -⟩ := hown6.form
    obtain ⟨b6, hd6⟩ : ∃ b6, b6 = b5 ++ s.data.toList := ⟨_, rfl⟩
    rw [← hd6] at hown6 hrd6 ⊢
    have hl6 : b6.length = 13 + s.size := by rw [hd6, List.length_append, HL5.out, data_length]
    have HD6 := Lib.hid hd6
    have HL6 := Lib.hid hl6
    clear hd6 hl6
    replace hbW := hbW.trans hb6
    clear hb6 hz5
    have hz6 : B0 ≤ w6.heap.size := by have := hbW.size; simp at this; have := HB0.out; omega
    refine (crc_sum A6 b6 _ c6 rfl _ hrd6 (by have := HL6.out; omega)).mono ?_
    rintro e w7 ⟨rfl, hb7⟩
    obtain ⟨q, hq⟩ : ∃ q, q = crcN b6 := ⟨_, rfl⟩
    rw [← hq]
    have hq1 : q < 4294967296 := by rw [hq]; exact crcN_lt b6
    have HQ := Lib.hid hq
    clear hq
    have hrd7 : RB w7 w7.heap.size A6 b6 := (hrd6.below hb7).more hb7.size
    replace hbW := hbW.trans (hb7.mono hz6)
    have hz7 : B0 ≤ w7.heap.size := Nat.le_trans hz6 hb7.size
    clear hb7 hz6 hown6 hrd6
    go_wp2_with fail
    refine (num_put A6 b6 c6 q 4 (by omega) (by omega) _ hrd7 (by have := HL6.out; omega)).mono ?_
    rintro e w8 ⟨v8, rfl, hown8, hb8⟩
    rw [putB_fits (by simp [fitsB]; omega)] at hown8
    replace hown8 := hown8.lower (base := B0) hz7
    replace hbW := hbW.trans (hb8.mono hz7)
    have hz8 : B0 ≤ w8.heap.size := Nat.le_trans hz7 hb8.size
    clear hb8 hz7 hrd7
    obtain ⟨A8, c8, rfl, -, -, -, -⟩ := hown8.form
    obtain ⟨b8, hd8⟩ : ∃ b8, b8 = b6 ++ leB (q : Int).toNat (Int.toNat 4) := ⟨_, rfl⟩
    rw [← hd8] at hown8 ⊢
    have hl8 : b8.length = 17 + s.size := by rw [hd8, List.length_append, HL6.out, leB_length]; simp; omega
    have hu := up_fill b8.length (by omega)
    have hfl := fill_lt b8.length
    have HD8 := Lib.hid hd8
    have HL8 := Lib.hid hl8
    have HU := Lib.hid hu
    clear hd8 hl8 hu
    go_wp2_with fail
    refine (num_up _ _ _).mono ?_
    rintro e w9 ⟨rfl, rfl⟩
    rw [HU.out]
    obtain ⟨f, hf⟩ : ∃ f, f = fillN b8.length := ⟨_, rfl⟩
    rw [← hf] at hfl ⊢
    have HF := Lib.hid hf
    clear hf
    have hll : b8.length ≤ 1000 := by have := HL8.out; omega
    go_wp2_with (at_builtin; refine wpList_appZ rfl (.tmp 40) (.tmp 46) rfl B0 _ b8 rfl hown8 f _ (by first | rfl | omega) rfl (by omega) hz8 ?_; intro v9 w9 hown9 hb9; clear hown8)
    go_ret2
    refine ⟨_, rfl, ?_, ((Below.refl _ _).alloc (Nat.le_refl _) _).trans ((hbW.trans hb9).mono (by omega))⟩
    have hh : b6 = headB call inode tr off s.data.toList.length ++ s.data.toList := by
      rw [HD6.out, HD5.out, HD4.out, HD3.out, HD2.out, HTB.out, data_length]
      cases tr <;> simp [headB]
    have he : encB call inode tr off s.data.toList = b8 ++ List.replicate f 0 := by
      rw [encB, ← hh, HF.out, HL8.out, HD8.out, HQ.out, data_length]
      simp
    rw [he]
    exact hown9.lower (by omega)
end Go.Proofs.Ytnbgkkjhmdfmiaa
