/- clog.Encode. bytes.Equal. clog.Decode. The walks of clog.End and clog.Split, and of the reference's End. No statement of the seat is proved here. -/
import Derived.Test.YtnbgkkjhmdfmiaaZ06
import Derived.Test.YtnbgkkjhmdfmiaaZ01
import Derived.Test.YtnbgkkjhmdfmiaaZ03
import Derived.Test.YtnbgkkjhmdfmiaaZ04
import Derived.Deep.RegionWith
import Derived.Laws.BytesArg
import Derived.Test.YtnbgkkjhmdfmiaaZ05
import Derived.RegionTactic
import Derived.ChangeAlike
namespace Go.Proofs.Ytnbgkkjhmdfmiaa
open Go.RowKit

theorem clog_numbers' (A : Option Addr) (bs : List UInt8) (l c : Nat) (hll : l = bs.length) (x : Int) (b o m lc : Nat) (ns : List Int) (hmm : m = ns.length) (hns : ∀ n ∈ ns, -9223372036854775808 ≤ n ∧ n ≤ 9223372036854775807) (hpos : 0 < ns.length) (hsm : ns.length ≤ 8)
    (w : World) (hr : RB w w.heap.size A bs) (hl : bs.length ≤ 1073741000) (hbw : b < w.heap.size) (hL : ∀ j (h : j < ns.length), w.cell? ⟨b, o + j, none⟩ = some (.int .i64 ns[j])) :
    Calls Try.prog 26 #[.slice A l c, .int .i64 x, .slice (some ⟨b, o, none⟩) m lc] w fun e w' => ∃ v, e = .returned v ∧ OB w' w.heap.size v (putsB bs x ns) ∧ Below w.heap.size w w' := by
  subst hll
  subst hmm
  exact clog_numbers A bs c x b o lc ns hns hpos hsm w hr hl hbw hL

/-- A record lies in block g. -/
structure RecAt (w : World) (g : Nat) (call inode : Int) (tr : Bool) (off : Int) (s : ByteArray) : Prop where
  c0 : w.cell? ⟨g, 0, none⟩ = some (.int .i64 call)
  c1 : w.cell? ⟨g, 1, none⟩ = some (.int .i64 inode)
  c2 : w.cell? ⟨g, 2, none⟩ = some (.bool tr)
  c3 : w.cell? ⟨g, 3, none⟩ = some (.int .i64 off)
  c4 : w.cell? ⟨g, 4, none⟩ = some (.string s)

theorem puts1 {n x : Int} (h : fitsB n x = true) (bs : List UInt8) : putsB bs x [n] = bs ++ leB n.toNat x.toNat := putB_fits h
theorem puts2 {n k x : Int} (h : fitsB n x = true) (h' : fitsB k x = true) (bs : List UInt8) : putsB bs x [n, k] = bs ++ leB n.toNat x.toNat ++ leB k.toNat x.toNat := by
  rw [show putsB bs x [n, k] = putB (putB bs n x) k x from rfl, putB_fits h, putB_fits h']
theorem up_fill (n : Nat) (h : n ≤ 1000000) : upN (n : Int) 8 = (n : Int) + (fillN n : Nat) := by
  have hm : mayB (n : Int) 8 = true := by rw [may_iff]; omega
  rw [upN, if_pos hm, fillN]
  omega
theorem fill_lt (n : Nat) : fillN n < 8 := by unfold fillN; omega

theorem clog_bit' (b : Bool) (z : Int) (h : z = if b then 1 else 0) (w : World) : Calls Try.prog 27 #[.bool b] w fun e w' => e = .returned (.int .i64 z) ∧ w = w' := by
  subst h
  exact clog_bit b w

theorem RB.drew {w : World} {B : Nat} {A : Option Addr} {bs : List UInt8} (h : RB w B A bs) : RB w.drew B A bs := h

theorem RecAt.below {w w' : World} {B g : Nat} {call inode off : Int} {tr : Bool} {s : ByteArray} (h : RecAt w g call inode tr off s) (hb : Below B w w') (hg : g < B) : RecAt w' g call inode tr off s :=
  ⟨(hb.cell (p := ⟨g, 0, none⟩) hg).trans h.c0, (hb.cell (p := ⟨g, 1, none⟩) hg).trans h.c1, (hb.cell (p := ⟨g, 2, none⟩) hg).trans h.c2, (hb.cell (p := ⟨g, 3, none⟩) hg).trans h.c3, (hb.cell (p := ⟨g, 4, none⟩) hg).trans h.c4⟩

theorem RecAt.new (w : World) (t : TypeId) (call inode off : Int) (tr : Bool) (s : ByteArray) : RecAt (w.alloc (.cells #[.int .i64 call, .int .i64 inode, .bool tr, .int .i64 off, .string s] t)) w.heap.size call inode tr off s := by
  constructor <;> (rw [cell_of_row _ _ _ _ t (0, 0) (heap_alloc_new w _)]; rfl)

theorem clog_encode_no (call inode off : Int) (tr : Bool) (s : ByteArray) (hm : mayR call inode tr off s.size = false) (w : World) :
    Calls Try.prog 14 #[.agg #[.int .i64 call, .int .i64 inode, .bool tr, .int .i64 off, .string s]] w fun e w' => e = .returned (.tuple #[.slice none 0 0, .int .i64 1]) ∧ Below w.heap.size w w' := by
  have HM := Lib.hid hm
  clear hm
  go_enter Try.func14, Try.ntmps14
  go_wp2_with fail
  refine (files_may call inode off tr s _).mono ?_
  rintro e w1 ⟨rfl, hb1⟩
  rw [HM.out]
  go_wp2_with fail
  go_ret2
  exact ⟨rfl, ((Below.refl _ _).alloc (Nat.le_refl _) _).trans (hb1.mono (by simp))⟩

set_option maxHeartbeats 4000000 in
theorem clog_encode_yes (call inode off : Int) (tr : Bool) (s : ByteArray) (hm : mayR call inode tr off s.size = true) (w : World) :
    Calls Try.prog 14 #[.agg #[.int .i64 call, .int .i64 inode, .bool tr, .int .i64 off, .string s]] w fun e w' => ∃ v, e = .returned (.tuple #[v, .int .i64 0]) ∧ OB w' w.heap.size v (encB call inode tr off s.data.toList) ∧ Below w.heap.size w w' := by
  obtain ⟨m1, m2, m3, m4, m5, m6, m7, m8, -⟩ := mayR_iff.1 hm
  have HM := Lib.hid hm
  clear hm
  go_enter Try.func14, Try.ntmps14
  go_wp2_with fail
  refine (files_may call inode off tr s _).mono ?_
  rintro e w1 ⟨rfl, hb1⟩
  rw [HM.out]
  obtain ⟨B0, hB0⟩ : ∃ B0, B0 = w.heap.size + 1 := ⟨_, rfl⟩
  have hbW : Below B0 (w.alloc (.cells #[.int .i64 call, .int .i64 inode, .bool tr, .int .i64 off, .string s] 31)) w1 := hb1.mono (by simp [hB0])
  have hz1 : B0 ≤ w1.heap.size := by have := hb1.size; simp at this; omega
  have hR0 := RecAt.new w 31 call inode off tr s
  have hgB : w.heap.size < B0 := by omega
  have HB0 := Lib.hid hB0
  clear hB0 hb1
  obtain ⟨k0, k1, k2, k3, k4⟩ := hR0.below hbW hgB
  have HR0 := Lib.hid hR0
  clear hR0
  go_wp2_with fail
  refine (clog_numbers' none [] 0 0 rfl 8 w1.heap.size 0 1 1 [call] rfl (by simp; omega) (by simp) (by simp) _ RB.nil_ (by simp) (by simp) (ints_new w1 _ [call] _ rfl)).mono ?_
  rintro e w2 ⟨v2, rfl, hown2, hb2⟩
  clear k0 k1 k2 k3 k4
  replace hb2 : Below B0 w1 w2 := ((Below.refl _ _).alloc hz1 _).trans (hb2.mono (by simp; omega))
  replace hown2 : OB w2 B0 v2 (leB call.toNat 8) := by
    have e : putsB [] 8 [call] = leB call.toNat 8 := by simp [putsB, putB, fitsB, m1]
    rw [e] at hown2
    exact hown2.lower (by simp; omega)
  replace hbW := hbW.trans hb2
  clear hb2 hz1
  have hz2 : B0 ≤ w2.heap.size := by have := hbW.size; simp at this; have := HB0.out; omega
  obtain ⟨k0, k1, k2, k3, k4⟩ := HR0.out.below hbW hgB
  obtain ⟨A2, c2, rfl, -, -, hrd2, -⟩ := hown2.form
  obtain ⟨b2, hd2⟩ : ∃ b2, b2 = leB call.toNat 8 := ⟨_, rfl⟩
  rw [← hd2] at hown2 hrd2 ⊢
  have hl2 : b2.length = 8 := by rw [hd2, leB_length]
  have HD2 := Lib.hid hd2
  have HL2 := Lib.hid hl2
  clear hd2 hl2
  go_wp2_with fail
  obtain ⟨tb, htb⟩ : ∃ tb : Int, tb = if tr then 1 else 0 := ⟨_, rfl⟩
  have ht0 : 0 ≤ tb ∧ tb ≤ 1 := by rw [htb]; cases tr <;> simp
  have HTB := Lib.hid htb
  have HT0 := Lib.hid ht0
  clear htb ht0
  have E3 := Lib.hid (puts2 (n := inode) (k := tb) (x := 1) (by simp [fitsB]; omega) (by have := HT0.out; simp [fitsB]; omega))
  have E4 := Lib.hid (puts1 (n := off) (x := 2) (by simp [fitsB]; omega))
  have E5 := Lib.hid (puts1 (n := (s.size : Int)) (x := 1) (by simp [fitsB]; omega))
  go_region_with (first
    | (go_at_call 27; refine (clog_bit' tr tb HTB.out _).mono ?_; rintro e w' ⟨rfl, rfl⟩)
    | (go_at_call 26; refine (clog_numbers' A2 b2 _ c2 rfl 1 _ 0 2 2 [inode, tb] rfl (by intro n hn; simp at hn; have := HT0.out; rcases hn with rfl | rfl <;> omega) (by simp) (by simp) _ ((hrd2.alloc (Nat.le_refl _) _).drew.more (by simp)) (by have := HL2.out; omega) (by simp) (ints_new w2 _ [inode, tb] _ rfl)).mono ?_; rintro e w3 ⟨v3, rfl, hown3, hb3⟩))
  all_goals
    clear k0 k1 k2 k3 k4
    rw [E3.out] at hown3
    replace hb3 : Below B0 w2 w3 := ((Below.refl _ _).alloc hz2 _).drew.trans (hb3.mono (by simp; omega))
    replace hown3 := hown3.lower (base := B0) (by simp; omega)
    replace hbW := hbW.trans hb3
    clear hb3 hz2 hown2 hrd2
    have hz3 : B0 ≤ w3.heap.size := by have := hbW.size; simp at this; have := HB0.out; omega
    obtain ⟨k0, k1, k2, k3, k4⟩ := HR0.out.below hbW hgB
    obtain ⟨A3, c3, rfl, -, -, hrd3, -⟩ := hown3.form
    obtain ⟨b3, hd3⟩ : ∃ b3, b3 = b2 ++ leB inode.toNat (Int.toNat 1) ++ leB tb.toNat (Int.toNat 1) := ⟨_, rfl⟩
    rw [← hd3] at hown3 hrd3 ⊢
    have hl3 : b3.length = 10 := by rw [hd3]; simp [leB_length, HL2.out]
    have HD3 := Lib.hid hd3
    have HL3 := Lib.hid hl3
    clear hd3 hl3
    go_wp2_with fail
    refine (clog_numbers' A3 b3 _ c3 rfl 2 _ 0 1 1 [off] rfl (by simp; omega) (by simp) (by simp) _ ((hrd3.alloc (Nat.le_refl _) _).more (by simp)) (by have := HL3.out; omega) (by simp) (ints_new w3 _ [off] _ rfl)).mono ?_
    rintro e w4 ⟨v4, rfl, hown4, hb4⟩
    clear k0 k1 k2 k3 k4
    rw [E4.out] at hown4
    replace hb4 : Below B0 w3 w4 := ((Below.refl _ _).alloc hz3 _).trans (hb4.mono (by simp; omega))
    replace hown4 := hown4.lower (base := B0) (by simp; omega)
    replace hbW := hbW.trans hb4
    clear hb4 hz3 hown3 hrd3
    have hz4 : B0 ≤ w4.heap.size := by have := hbW.size; simp at this; have := HB0.out; omega
    obtain ⟨k0, k1, k2, k3, k4⟩ := HR0.out.below hbW hgB
    obtain ⟨A4, c4, rfl, -, -, hrd4, -⟩ := hown4.form
    obtain ⟨b4, hd4⟩ : ∃ b4, b4 = b3 ++ leB off.toNat (Int.toNat 2) := ⟨_, rfl⟩
    rw [← hd4] at hown4 hrd4 ⊢
    have hl4 : b4.length = 12 := by rw [hd4]; simp [leB_length, HL3.out]
    have HD4 := Lib.hid hd4
    have HL4 := Lib.hid hl4
    clear hd4 hl4
    go_wp2_with fail
    refine (clog_numbers' A4 b4 _ c4 rfl 1 _ 0 1 1 [(s.size : Int)] rfl (by simp; omega) (by simp) (by simp) _ ((hrd4.alloc (Nat.le_refl _) _).more (by simp)) (by have := HL4.out; omega) (by simp) (ints_new w4 _ [(s.size : Int)] _ rfl)).mono ?_
    rintro e w5 ⟨v5, rfl, hown5, hb5⟩
    clear k0 k1 k2 k3 k4
    rw [E5.out] at hown5
    replace hb5 : Below B0 w4 w5 := ((Below.refl _ _).alloc hz4 _).trans (hb5.mono (by simp; omega))
    replace hown5 := hown5.lower (base := B0) (by simp; omega)
    replace hbW := hbW.trans hb5
    clear hb5 hz4 hown4 hrd4
    have hz5 : B0 ≤ w5.heap.size := by have := hbW.size; simp at this; have := HB0.out; omega
    obtain ⟨k0, k1, k2, k3, k4⟩ := HR0.out.below hbW hgB
    obtain ⟨A5, c5, rfl, -, -, hrd5, -⟩ := hown5.form
    obtain ⟨b5, hd5⟩ : ∃ b5, b5 = b4 ++ leB (s.size : Int).toNat (Int.toNat 1) := ⟨_, rfl⟩
    rw [← hd5] at hown5 hrd5 ⊢
    have hl5 : b5.length = 13 := by rw [hd5]; simp [leB_length, HL4.out]
    have HD5 := Lib.hid hd5
    have HL5 := Lib.hid hl5
    clear hd5 hl5
    go_wp2_with (at_builtin; refine wpList_appS rfl (.tmp 31) (.tmp 33) rfl B0 _ b5 rfl hown5 s rfl (by have := HL5.out; omega) hz5 ?_; intro v6 w6 hown6 hb6)
    clear k0 k1 k2 k3 k4 hown5 hrd5
    obtain ⟨A6, c6, rfl, -, -, hrd6, -⟩ := hown6.form
    obtain ⟨b6, hd6⟩ : ∃ b6, b6 = b5 ++ s.data.toList := ⟨_, rfl⟩
    rw [← hd6] at hown6 hrd6 ⊢
    have hl6 : b6.length = 13 + s.size := by rw [hd6, List.length_append, HL5.out, data_length]
    have HD6 := Lib.hid hd6
    have HL6 := Lib.hid hl6
    clear hd6 hl6
    replace hbW := hbW.trans hb6
    clear hb6 hz5
    have hz6 : B0 ≤ w6.heap.size := by have := hbW.size; simp at this; have := HB0.out; omega
    refine (crc_sum A6 b6 _ c6 rfl _ hrd6 (by have := HL6.out; omega)).mono ?_
    rintro e w7 ⟨rfl, hb7⟩
    obtain ⟨q, hq⟩ : ∃ q, q = crcN b6 := ⟨_, rfl⟩
    rw [← hq]
    have hq1 : q < 4294967296 := by rw [hq]; exact crcN_lt b6
    have HQ := Lib.hid hq
    clear hq
    have hrd7 : RB w7 w7.heap.size A6 b6 := (hrd6.below hb7).more hb7.size
    replace hbW := hbW.trans (hb7.mono hz6)
    have hz7 : B0 ≤ w7.heap.size := Nat.le_trans hz6 hb7.size
    clear hb7 hz6 hown6 hrd6
    go_wp2_with fail
    refine (num_put A6 b6 c6 q 4 (by omega) (by omega) _ hrd7 (by have := HL6.out; omega)).mono ?_
    rintro e w8 ⟨v8, rfl, hown8, hb8⟩
    rw [putB_fits (by simp [fitsB]; omega)] at hown8
    replace hown8 := hown8.lower (base := B0) hz7
    replace hbW := hbW.trans (hb8.mono hz7)
    have hz8 : B0 ≤ w8.heap.size := Nat.le_trans hz7 hb8.size
    clear hb8 hz7 hrd7
    obtain ⟨A8, c8, rfl, -, -, -, -⟩ := hown8.form
    obtain ⟨b8, hd8⟩ : ∃ b8, b8 = b6 ++ leB (q : Int).toNat (Int.toNat 4) := ⟨_, rfl⟩
    rw [← hd8] at hown8 ⊢
    have hl8 : b8.length = 17 + s.size := by rw [hd8, List.length_append, HL6.out, leB_length]; simp; omega
    have hu := up_fill b8.length (by omega)
    have hfl := fill_lt b8.length
    have HD8 := Lib.hid hd8
    have HL8 := Lib.hid hl8
    have HU := Lib.hid hu
    clear hd8 hl8 hu
    go_wp2_with fail
    refine (num_up _ _ _).mono ?_
    rintro e w9 ⟨rfl, rfl⟩
    rw [HU.out]
    obtain ⟨f, hf⟩ : ∃ f, f = fillN b8.length := ⟨_, rfl⟩
    rw [← hf] at hfl ⊢
    have HF := Lib.hid hf
    clear hf
    have hll : b8.length ≤ 1000 := by have := HL8.out; omega
    go_wp2_with (at_builtin; refine wpList_appZ rfl (.tmp 40) (.tmp 46) rfl B0 _ b8 rfl hown8 f _ (by first | rfl | omega) rfl (by omega) hz8 ?_; intro v9 w9 hown9 hb9; clear hown8)
    go_ret2
    refine ⟨_, rfl, ?_, ((Below.refl _ _).alloc (Nat.le_refl _) _).trans ((hbW.trans hb9).mono (by omega))⟩
    have hh : b6 = headB call inode tr off s.data.toList.length ++ s.data.toList := by
      rw [HD6.out, HD5.out, HD4.out, HD3.out, HD2.out, HTB.out, data_length]
      cases tr <;> simp [headB]
    have he : encB call inode tr off s.data.toList = b8 ++ List.replicate f 0 := by
      rw [encB, ← hh, HF.out, HL8.out, HD8.out, HQ.out, data_length]
      simp
    rw [he]
    exact hown9.lower (by omega)
end Go.Proofs.Ytnbgkkjhmdfmiaa

namespace Go.Proofs.Ytnbgkkjhmdfmiaa
open Go.RowKit

theorem strOf_bytes (bs : List UInt8) : strOfNums (bs.map fun u => (u.toNat : Int)) = ⟨bs.toArray⟩ := by
  unfold strOfNums
  congr 1
  simp [Function.comp_def]

/-- string(b). -/
theorem conv_s {A : Option Addr} {n c : Nat} {bs : List UInt8} {w : World} (h : Sl w A n bs) : (convert 33 9 (.slice A n c)).run Try.prog w = .ok (.string ⟨bs.toArray⟩) w := by
  rcases Nat.eq_zero_or_pos n with hn | hn
  · subst hn
    obtain rfl : bs = [] := List.eq_nil_of_length_eq_zero h.1
    rcases A with _ | a
    · exact run_convert_bytes_nil w 33 5 Try.underlying33 Try.underlying5 0 c _ Try.underlying9
    · rw [run_convert_bytes_string w 33 9 5 _ 0 c Try.underlying33 Try.underlying5 Try.underlying9]
      simp [Conv.bytesToString, loadCells]
      rfl
  · obtain ⟨b, o, rfl, hb, hc⟩ := h.all hn
    have := run_convert_bytes_arg (P := Try.prog) w 33 5 Try.underlying33 Try.underlying5 b o n c (bs.map fun u => (u.toNat : Int)) (by simp [h.1])
      (fun i hi => by rw [hc i hi, List.getD_eq_getElem?_getD, List.getElem?_map, List.getElem?_eq_getElem (by rw [h.1]; exact hi)]; rfl) _ Try.underlying9
    rw [strOf_bytes] at this
    exact this

theorem bytes_equal {A A' : Option Addr} {n n' c c' : Nat} {xs ys : List UInt8} {w : World} (hx : Sl w A n xs) (hy : Sl w A' n' ys) :
    Calls Try.prog 47 #[.slice A n c, .slice A' n' c'] w fun e w' => ∃ s, e = .returned (.bool s) ∧ Hid (s = decide (xs = ys)) ∧ w = w' := by
  have h1 := conv_s (c := c) hx
  have h2 := conv_s (c := c') hy
  go_enter Try.func47, Try.ntmps47
  go_wp2
  go_ret
  refine ⟨_, rfl, Lib.hid ?_, rfl⟩
  rw [Bool.eq_iff_iff, beq_iff_eq, decide_eq_true_iff]
end Go.Proofs.Ytnbgkkjhmdfmiaa

namespace Go.Proofs.Ytnbgkkjhmdfmiaa
open Go.RowKit

theorem has_prefix {A A' : Option Addr} {n n' c c' : Nat} {xs ys : List UInt8} {w : World} (hx : Sl w A n xs) (hc : n ≤ c) (hy : Sl w A' n' ys) :
    Calls Try.prog 35 #[.slice A n c, .slice A' n' c'] w fun e w' => ∃ s, e = .returned (.bool s) ∧ Hid (s = decide (n' ≤ n ∧ xs.take n' = ys)) ∧ w = w' := by
  by_cases h : n' ≤ n
  · go_enter Try.func35, Try.ntmps35
    go_wp2_with fail
    refine (bytes_equal (hx.take h) hy).mono ?_
    rintro e w1 ⟨s, rfl, hs, rfl⟩
    go_wp2_with fail
    go_ret
    exact ⟨_, rfl, Lib.hid (by rw [hs.out]; simp [h]), rfl⟩
  · go_enter Try.func35, Try.ntmps35
    go_wp2_with fail
    go_ret
    exact ⟨_, rfl, Lib.hid (by simp [h]), rfl⟩

/-- What a record's read tells. -/
def recW (bs : List UInt8) : Value := if decE bs = 0 then .agg #[.int .i64 (dCall bs), .int .i64 (dIno bs), .bool (dTr bs), .int .i64 (dOff bs), .string ⟨(dDat bs).toArray⟩] else .agg #[.int .i64 0, .int .i64 0, .bool false, .int .i64 0, .string ⟨#[]⟩]
def recZ : List Value := [.int .i64 0, .int .i64 0, .bool false, .int .i64 0, .string ⟨#[]⟩]

set_option maxHeartbeats 2000000 in
theorem clog_decode_may {A : Option Addr} {n c : Nat} {bs : List UInt8} {w : World} (hs : Sl w A n bs) (hc : n ≤ c) (hl : 17 + dN bs ≤ n) (hsum : getN bs ((13 + dN bs : Nat) : Int) 4 = (crcN (bs.take (13 + dN bs)) : Nat)) :
    Calls Try.prog 17 #[.slice A n c] w fun e w' => e = .returned (.tuple #[recW bs, .int .i64 (decL bs : Nat), .int .i64 (decE bs)]) ∧ Grow w w' := by
  have HL := Lib.hid hs.1
  have HS := Lib.hid hsum
  obtain ⟨b, o, rfl, hb, hcell⟩ := hs.all (by omega)
  have HC := Lib.hid (show ∀ k, k < 17 → w.cell? ⟨b, o + k, none⟩ = some (.int .u8 (by_ bs k)) by
    intro k hk
    rw [hcell k (by omega), by_get (by rw [hs.1]; omega)])
  obtain ⟨nD, HN⟩ : ∃ nD, Hid (nD = dN bs) := ⟨_, Lib.hid rfl⟩
  rw [← HN.out] at hl HS
  have c12 := HC.out 12 (by omega)
  rw [dN_by, ← HN.out] at c12
  have hn1 : nD < 256 := by rw [HN.out]; exact dN_lt bs
  have hbz : b ≠ w.heap.size := by omega
  have hK := Lib.hid (show getK bs (13 + (nD : Int)) 4 = true from getK_small (b := bs) (a := 13 + nD) (wd := 4) (.inr (.inr rfl)) (by rw [HL.out]; omega))
  have hG := Lib.hid (show getN bs (13 + (nD : Int)) 4 = (crcN (bs.take (13 + nD)) : Nat) from HS.out)
  clear hcell hsum
  go_enter Try.func17, Try.ntmps17
  go_wp2_with fail
  refine (get_s (hs.alloc _) (by omega) (by omega)).mono ?_
  rintro e w1 ⟨rfl, rfl⟩
  rw [hK.out]
  obtain ⟨qq, Q0⟩ : ∃ q, Hid (q = getN bs (13 + (nD : Int)) 4) := ⟨_, Lib.hid rfl⟩
  rw [← Q0.out]
  go_wp2_with fail
  refine (sum_s (bs := bs.take (13 + nD)) ((hs.take (k := 13 + nD) (by omega)).alloc _)).mono ?_
  rintro e w1 ⟨q, rfl, hq, hq1, g1⟩
  have hne : (qq != (q : Int)) = false := by rw [bne_eq_false_iff_eq, Q0.out, hq.out, hG.out]
  have ZR : Row w1 w.heap.size recZ := (Row.new w 31 _ _ rfl).keep g1
  replace g1 := ((Grow.refl _).alloc _).trans g1
  go_wp2_with fail
  refine (get_s (hs.keep g1) (by omega) (by omega)).mono ?_
  rintro e w2 ⟨rfl, rfl⟩
  go_wp2_with fail
  refine (get_s (hs.keep g1) (by omega) (by omega)).mono ?_
  rintro e w2 ⟨rfl, rfl⟩
  obtain ⟨x0, X0⟩ : ∃ x, Hid (x = dCall bs) := ⟨_, Lib.hid rfl⟩
  obtain ⟨x1, X1⟩ : ∃ x, Hid (x = dIno bs) := ⟨_, Lib.hid rfl⟩
  obtain ⟨x2, X2⟩ : ∃ x, Hid (x = by_ bs 9) := ⟨_, Lib.hid rfl⟩
  obtain ⟨x3, X3⟩ : ∃ x, Hid (x = dOff bs) := ⟨_, Lib.hid rfl⟩
  rw [show getN bs 0 8 = x0 from X0.out.symm, show getN bs 10 2 = x3 from X3.out.symm]
  have c8 := g1.cell (HC.out 8 (by omega))
  have c9 := g1.cell (HC.out 9 (by omega))
  rw [show by_ bs 8 = x1 from X1.out.symm] at c8
  rw [← X2.out] at c9
  obtain ⟨m10, m11⟩ : 0 ≤ x1 ∧ x1 < 256 := by rw [X1.out]; exact by_lt bs 8
  obtain ⟨m20, m21⟩ : 0 ≤ x2 ∧ x2 < 256 := by rw [X2.out]; exact by_lt bs 9
  have hb3 : b < w1.heap.size := Nat.lt_of_lt_of_le hb g1.size
  have hb4 : b ≠ w1.heap.size := by omega
  have hc13 : c ≠ 13 := by omega
  obtain ⟨sv, SV⟩ : ∃ sv : ByteArray, Hid (sv = ⟨(dDat bs).toArray⟩) := ⟨_, Lib.hid rfl⟩
  have hd : Sl w (some ⟨b, o + 13, none⟩) nD (dDat bs) := by
    have h1 := (hs.drop (k := 13) (c := c) (by omega) hc).take (k := nD) (by omega)
    rw [if_neg hc13, HN.out] at h1
    rw [HN.out]
    exact h1
  have cv0 : (convert 33 9 (.slice (some ⟨b, o + 13, none⟩) nD (c - 13))).run Try.prog w1.drew = .ok (.string sv) w1.drew := by
    rw [SV.out]; exact conv_s ((hd.keep g1).drew)
  have cv1 : (convert 33 9 (.slice (some ⟨b, o + 13, none⟩) nD (c - 13))).run Try.prog (w1.alloc (.cells #[.int .i64 0, .int .i64 0, .bool false, .int .i64 0, .string ⟨#[]⟩] 31)).drew = .ok (.string sv) (w1.alloc (.cells #[.int .i64 0, .int .i64 0, .bool false, .int .i64 0, .string ⟨#[]⟩] 31)).drew := by
    rw [SV.out]; exact conv_s (((hd.keep g1).alloc _).drew)
  obtain ⟨tr, TR⟩ : ∃ x, Hid (x = dTr bs) := ⟨_, Lib.hid rfl⟩
  have htr : (x2 == 1) = tr := by rw [TR.out, dTr, X2.out, Bool.eq_iff_iff]; simp
  go_wp2_with fail
  go_region
  all_goals
    have VR := (Row.new w1 31 [.int .i64 x0, .int .i64 x1, .bool tr, .int .i64 x3, .string sv] _ rfl).keep ((Grow.refl _).drew)
    replace ZR := ZR.keep (((Grow.refl w1).alloc (.cells (List.toArray [.int .i64 x0, .int .i64 x1, .bool tr, .int .i64 x3, .string sv]) 31)).drew)
    have GV := (g1.alloc (.cells (List.toArray [.int .i64 x0, .int .i64 x1, .bool tr, .int .i64 x3, .string sv]) 31)).drew
    have HLD := Lib.hid (show (dDat bs).length = nD by rw [dDat_length (by rw [HL.out, ← HN.out]; exact hl), HN.out])
    have HSZ := Lib.hid (show sv.size = nD by rw [← data_length, SV.out]; exact HLD.out)
    have HSD := Lib.hid (show sv.data.toList = dDat bs by rw [SV.out])
    clear c8 c9 c12 cv0 cv1 hb3 hb4 htr
    have HMM := Lib.hid (show mayR x0 x1 tr x3 sv.size = mayD bs by rw [mayD, HSZ.out, HN.out, X0.out, X1.out, X3.out, TR.out])
    have HEE := Lib.hid (show encB x0 x1 tr x3 sv.data.toList = encD bs by rw [encD, HSD.out, X0.out, X1.out, X3.out, TR.out])
    have HDE := Lib.hid (show decE bs = if sameP bs then 0 else 2 by rw [decE, if_neg (by rw [HL.out]; omega), if_neg (by rw [HL.out, ← HN.out]; omega), ← HN.out, if_pos HS.out])
    go_wp2_with fail
    cases hm : mayD bs with
    | false =>
      have HE := Lib.hid (show decE bs = 2 by rw [HDE.out, sameP, hm]; rfl)
      refine (clog_encode_no x0 x1 x3 tr sv (HMM.out.trans hm) _).mono ?_
      rintro e w5 ⟨rfl, g5⟩
      replace g5 : Grow _ w5 := g5
      have ZQ := ZR.keep g5
      have q0 := ZQ.1.2 0 _ rfl; have q1 := ZQ.1.2 1 _ rfl; have q2 := ZQ.1.2 2 _ rfl; have q3 := ZQ.1.2 3 _ rfl; have q4 := ZQ.1.2 4 _ rfl
      have r0 := ZQ.2 0 (by simp [recZ]); have r1 := ZQ.2 1 (by simp [recZ]); have r2 := ZQ.2 2 (by simp [recZ]); have r3 := ZQ.2 3 (by simp [recZ]); have r4 := ZQ.2 4 (by simp [recZ])
      clear ZQ hm
      go_wp2_with fail
      rw [show recW bs = .agg #[.int .i64 0, .int .i64 0, .bool false, .int .i64 0, .string ⟨#[]⟩] by rw [recW, if_neg (by rw [HE.out]; omega)], show decL bs = 0 by rw [decL, if_neg (by rw [HE.out]; omega)], HE.out]
      refine bodyPost_ret (v := .tuple #[.agg #[.int .i64 0, .int .i64 0, .bool false, .int .i64 0, .string ⟨#[]⟩], .int .i64 0, .int .i64 2]) (by simp [results, Try.results17, go_sem, q0, q1, q2, q3, q4]) rfl ⟨rfl, ?_⟩
      repeat (refine Grow.setCell ?_ (by simp) _)
      exact GV.trans g5
    | true =>
      have HM := Lib.hid (HMM.out.trans hm)
      have HE := Lib.hid (show decE bs = if decide (dAll bs ≤ n ∧ bs.take (dAll bs) = encD bs) then 0 else 2 by rw [HDE.out, sameP, hm, Bool.true_and, HL.out])
      clear hm
      obtain ⟨L, LL⟩ : ∃ L, Hid (L = dAll bs) := ⟨_, Lib.hid rfl⟩
      have hL : L ≤ 300 := by
        rw [LL.out, dAll, ← HN.out]
        have := fill_lt (17 + nD)
        omega
      refine (clog_encode_yes x0 x1 x3 tr sv HM.out _).mono ?_
      rintro e w5 ⟨v5, rfl, hown5, g5⟩
      replace g5 : Grow _ w5 := g5
      rw [HEE.out] at hown5
      obtain ⟨A5, c5, rfl, hw5⟩ := Own.ofOB hown5 L (by rw [encD_length (by rw [HL.out, ← HN.out]; exact hl), LL.out]) (by omega)
      clear hown5
      go_wp2_with fail
      refine (has_prefix (hs.keep (GV.trans g5)) hc hw5.sl).mono ?_
      rintro e w6 ⟨sb, rfl, hs6, rfl⟩
      rw [← LL.out] at HE
      rw [← hs6.out] at HE
      have ZQ := ZR.keep g5
      have q0 := ZQ.1.2 0 _ rfl; have q1 := ZQ.1.2 1 _ rfl; have q2 := ZQ.1.2 2 _ rfl; have q3 := ZQ.1.2 3 _ rfl; have q4 := ZQ.1.2 4 _ rfl
      have r0 := ZQ.2 0 (by simp [recZ]); have r1 := ZQ.2 1 (by simp [recZ]); have r2 := ZQ.2 2 (by simp [recZ]); have r3 := ZQ.2 3 (by simp [recZ]); have r4 := ZQ.2 4 (by simp [recZ])
      have VQ := VR.keep g5
      have z0 := VQ.1.2 0 _ rfl; have z1 := VQ.1.2 1 _ rfl; have z2 := VQ.1.2 2 _ rfl; have z3 := VQ.1.2 3 _ rfl; have z4 := VQ.1.2 4 _ rfl
      clear ZQ VQ
      cases sb with
      | true =>
        have HE1 := Lib.hid (show decE bs = 0 from HE.out)
        have HV := Lib.hid (show recW bs = .agg #[.int .i64 x0, .int .i64 x1, .bool tr, .int .i64 x3, .string sv] by rw [recW, if_pos HE1.out, X0.out, X1.out, TR.out, X3.out, SV.out])
        have HLL := Lib.hid (show decL bs = L by rw [decL, if_pos HE1.out, LL.out])
        clear HE
        go_wp2_with fail
        rw [HV.out, HE1.out, HLL.out]
        refine bodyPost_ret (v := .tuple #[.agg #[.int .i64 x0, .int .i64 x1, .bool tr, .int .i64 x3, .string sv], .int .i64 (L : Nat), .int .i64 0]) (by simp [results, Try.results17, go_sem, q0, q1, q2, q3, q4]) rfl ⟨rfl, ?_⟩
        repeat (refine Grow.setCell ?_ (by simp) _)
        exact GV.trans g5
      | false =>
        have HE1 := Lib.hid (show decE bs = 2 from HE.out)
        clear HE
        go_wp2_with fail
        rw [show recW bs = .agg #[.int .i64 0, .int .i64 0, .bool false, .int .i64 0, .string ⟨#[]⟩] by rw [recW, if_neg (by rw [HE1.out]; omega)], show decL bs = 0 by rw [decL, if_neg (by rw [HE1.out]; omega)], HE1.out]
        refine bodyPost_ret (v := .tuple #[.agg #[.int .i64 0, .int .i64 0, .bool false, .int .i64 0, .string ⟨#[]⟩], .int .i64 0, .int .i64 2]) (by simp [results, Try.results17, go_sem, q0, q1, q2, q3, q4]) rfl ⟨rfl, ?_⟩
        repeat (refine Grow.setCell ?_ (by simp) _)
        exact GV.trans g5

theorem clog_decode_short {A : Option Addr} {n c : Nat} {bs : List UInt8} {w : World} (hs : Sl w A n bs) (hl : n < 13) :
    Calls Try.prog 17 #[.slice A n c] w fun e w' => e = .returned (.tuple #[recW bs, .int .i64 (decL bs : Nat), .int .i64 (decE bs)]) ∧ Grow w w' := by
  have HE := Lib.hid (show decE bs = 3 by rw [decE, if_pos (by rw [hs.1]; exact hl)])
  go_enter Try.func17, Try.ntmps17
  go_wp2_with fail
  rw [show recW bs = .agg #[.int .i64 0, .int .i64 0, .bool false, .int .i64 0, .string ⟨#[]⟩] by rw [recW, if_neg (by rw [HE.out]; omega)], show decL bs = 0 by rw [decL, if_neg (by rw [HE.out]; omega)], HE.out]
  refine bodyPost_ret (v := .tuple #[.agg #[.int .i64 0, .int .i64 0, .bool false, .int .i64 0, .string ⟨#[]⟩], .int .i64 0, .int .i64 3]) (by simp [results, Try.results17, go_sem]) rfl ⟨rfl, ?_⟩
  repeat (first | refine Grow.setCell ?_ (by simp) _ | refine Grow.alloc ?_ _)
  exact Grow.refl _

theorem getK_beyond {bs : List UInt8} {a : Nat} (h : bs.length < a + 4) : getK bs (a : Int) 4 = false := by
  refine (get_none ?_).2
  rintro ⟨-, -, h2⟩
  omega

set_option maxHeartbeats 1000000 in
theorem clog_decode_early {A : Option Addr} {n c : Nat} {bs : List UInt8} {w : World} (hs : Sl w A n bs) (hc : n ≤ c) (hl : 13 ≤ n) (hsum : n < 17 + dN bs ∨ getN bs ((13 + dN bs : Nat) : Int) 4 ≠ (crcN (bs.take (13 + dN bs)) : Nat)) :
    Calls Try.prog 17 #[.slice A n c] w fun e w' => e = .returned (.tuple #[recW bs, .int .i64 (decL bs : Nat), .int .i64 (decE bs)]) ∧ Grow w w' := by
  have HL := Lib.hid hs.1
  obtain ⟨b, o, rfl, hb, hcell⟩ := hs.all (by omega)
  obtain ⟨nD, HN⟩ : ∃ nD, Hid (nD = dN bs) := ⟨_, Lib.hid rfl⟩
  have c12 : w.cell? ⟨b, o + 12, none⟩ = some (.int .u8 ((nD : Nat) : Int)) := by
    rw [hcell 12 (by omega), HN.out, ← dN_by, by_get (by rw [hs.1]; omega)]
  have hn1 : nD < 256 := by rw [HN.out]; exact dN_lt bs
  have hbz : b ≠ w.heap.size := by omega
  rw [← HN.out] at hsum
  clear hcell
  by_cases hsh : n < 17 + nD
  · have HE := Lib.hid (show decE bs = 3 by rw [decE, if_neg (by rw [HL.out]; omega), if_pos (by rw [HL.out, ← HN.out]; exact hsh)])
    have hK := Lib.hid (show getK bs (13 + (nD : Int)) 4 = false from getK_beyond (a := 13 + nD) (by rw [HL.out]; omega))
    clear hsum
    go_enter Try.func17, Try.ntmps17
    go_wp2_with fail
    refine (get_s (hs.alloc _) (by omega) (by omega)).mono ?_
    rintro e w1 ⟨rfl, rfl⟩
    rw [hK.out]
    go_wp2_with fail
    rw [show recW bs = .agg #[.int .i64 0, .int .i64 0, .bool false, .int .i64 0, .string ⟨#[]⟩] by rw [recW, if_neg (by rw [HE.out]; omega)], show decL bs = 0 by rw [decL, if_neg (by rw [HE.out]; omega)], HE.out]
    refine bodyPost_ret (v := .tuple #[.agg #[.int .i64 0, .int .i64 0, .bool false, .int .i64 0, .string ⟨#[]⟩], .int .i64 0, .int .i64 3]) (by simp [results, Try.results17, go_sem]) rfl ⟨rfl, ?_⟩
    repeat (first | refine Grow.setCell ?_ (by simp) _ | refine Grow.alloc ?_ _)
    exact Grow.refl _
  · have hl17 : 17 + nD ≤ n := by omega
    have hsum2 : getN bs ((13 + nD : Nat) : Int) 4 ≠ (crcN (bs.take (13 + nD)) : Nat) := by
      rcases hsum with h | h
      · exact absurd h hsh
      · exact h
    have HE := Lib.hid (show decE bs = 4 by rw [decE, if_neg (by rw [HL.out]; omega), if_neg (by rw [HL.out, ← HN.out]; omega), ← HN.out, if_neg hsum2])
    have hK := Lib.hid (show getK bs (13 + (nD : Int)) 4 = true from getK_small (b := bs) (a := 13 + nD) (wd := 4) (.inr (.inr rfl)) (by rw [HL.out]; omega))
    have hG := Lib.hid (show getN bs (13 + (nD : Int)) 4 ≠ (crcN (bs.take (13 + nD)) : Nat) from hsum2)
    clear hsum hsum2 hsh
    go_enter Try.func17, Try.ntmps17
    go_wp2_with fail
    refine (get_s (hs.alloc _) (by omega) (by omega)).mono ?_
    rintro e w1 ⟨rfl, rfl⟩
    rw [hK.out]
    obtain ⟨qq, Q0⟩ : ∃ q, Hid (q = getN bs (13 + (nD : Int)) 4) := ⟨_, Lib.hid rfl⟩
    rw [← Q0.out]
    go_wp2_with fail
    refine (sum_s (bs := bs.take (13 + nD)) ((hs.take (k := 13 + nD) (by omega)).alloc _)).mono ?_
    rintro e w1 ⟨q, rfl, hq, hq1, g1⟩
    have hne : (qq != (q : Int)) = true := by rw [bne_iff_ne, Q0.out, hq.out]; exact hG.out
    have ZR : Row w1 w.heap.size recZ := (Row.new w 31 _ _ rfl).keep g1
    replace g1 := ((Grow.refl _).alloc _).trans g1
    have q0 := ZR.1.2 0 _ rfl; have q1 := ZR.1.2 1 _ rfl; have q2 := ZR.1.2 2 _ rfl; have q3 := ZR.1.2 3 _ rfl; have q4 := ZR.1.2 4 _ rfl
    have r0 := ZR.2 0 (by simp [recZ]); have r1 := ZR.2 1 (by simp [recZ]); have r2 := ZR.2 2 (by simp [recZ]); have r3 := ZR.2 3 (by simp [recZ]); have r4 := ZR.2 4 (by simp [recZ])
    clear ZR
    go_wp2_with fail
    rw [show recW bs = .agg #[.int .i64 0, .int .i64 0, .bool false, .int .i64 0, .string ⟨#[]⟩] by rw [recW, if_neg (by rw [HE.out]; omega)], show decL bs = 0 by rw [decL, if_neg (by rw [HE.out]; omega)], HE.out]
    refine bodyPost_ret (v := .tuple #[.agg #[.int .i64 0, .int .i64 0, .bool false, .int .i64 0, .string ⟨#[]⟩], .int .i64 0, .int .i64 4]) (by simp [results, Try.results17, go_sem, q0, q1, q2, q3, q4]) rfl ⟨rfl, ?_⟩
    repeat (refine Grow.setCell ?_ (by simp) _)
    exact g1

theorem clog_decode {A : Option Addr} {n c : Nat} {bs : List UInt8} {w : World} (hs : Sl w A n bs) (hc : n ≤ c) :
    Calls Try.prog 17 #[.slice A n c] w fun e w' => e = .returned (.tuple #[recW bs, .int .i64 (decL bs : Nat), .int .i64 (decE bs)]) ∧ Grow w w' := by
  by_cases h1 : n < 13
  · exact clog_decode_short hs h1
  · by_cases h2 : n < 17 + dN bs ∨ getN bs ((13 + dN bs : Nat) : Int) 4 ≠ (crcN (bs.take (13 + dN bs)) : Nat)
    · exact clog_decode_early hs hc (by omega) h2
    · exact clog_decode_may hs hc (Nat.le_of_not_lt fun h => h2 (.inl h)) (Decidable.byContradiction fun e => h2 (.inr e))
end Go.Proofs.Ytnbgkkjhmdfmiaa

namespace Go.Proofs.Ytnbgkkjhmdfmiaa
open Go.RowKit

theorem ofInt_toNat64 (x : Int) : (BitVec.ofInt 64 x).toNat = (x % 18446744073709551616).toNat := by
  rw [BitVec.toNat_ofInt]
  rfl
theorem i64_mask32 (x : Int) : bits .and .i64 x 4294967295 = x % 4294967296 := by
  show IntKind.i64.wrap ((BitVec.ofInt 64 x &&& BitVec.ofInt 64 4294967295).toNat : Int) = _
  have e : (BitVec.ofInt 64 4294967295).toNat = 2 ^ 32 - 1 := by decide
  rw [BitVec.toNat_and, e, Nat.and_two_pow_sub_one_eq_mod, ofInt_toNat64, IntKind.wrap_i64]
  omega
theorem i64_join32 (a b : Nat) (ha : a ≤ 1073741824) (hb : b < 4294967296) : bits .or .i64 ((a : Int) * 4294967296) (b : Int) = (a : Int) * 4294967296 + b := by
  show IntKind.i64.wrap ((BitVec.ofInt 64 ((a : Int) * 4294967296) ||| BitVec.ofInt 64 (b : Int)).toNat : Int) = _
  have e1 : (((a : Int) * 4294967296) % 18446744073709551616).toNat = a * 4294967296 := by omega
  have e2 : ((b : Int) % 18446744073709551616).toNat = b := by omega
  rw [BitVec.toNat_or, ofInt_toNat64, ofInt_toNat64, e1, e2, nat_join 32 _ _ (by omega) (by omega), IntKind.wrap_i64]
  omega

/-- An end that may be. -/
def endB (e n : Int) : Bool := decide (0 ≤ e ∧ e ≤ 1073741824 ∧ 0 ≤ n ∧ n ≤ 1016 ∧ n % 8 = 0)
theorem endB_iff {e n : Int} : endB e n = true ↔ 0 ≤ e ∧ e ≤ 1073741824 ∧ 0 ≤ n ∧ n ≤ 1016 ∧ n % 8 = 0 := by simp [endB]

theorem clog_end_yes (e n : Int) (h : endB e n = true) (w : World) :
    Calls Try.prog 9 #[.int .i64 e, .int .i64 n] w fun r w' => r = .returned (.tuple #[.int .i64 (e * 4294967296 + n), .int .i64 0]) ∧ w = w' := by
  obtain ⟨h1, h2, h3, h4, h5⟩ := endB_iff.1 h
  obtain ⟨a, rfl⟩ := Int.eq_ofNat_of_zero_le h1
  obtain ⟨b, rfl⟩ := Int.eq_ofNat_of_zero_le h3
  have hj := i64_join32 a b (by omega) (by omega)
  have h5' : ((b : Int) % 8 != 0) = false := by simp [h5]
  have HJ := Lib.hid hj
  clear hj h5 h
  go_enter Try.func9, Try.ntmps9
  go_wp2
  go_ret2
  exact ⟨by rw [← HJ.out]; rfl, rfl⟩

theorem clog_end_no (e n : Int) (h : endB e n = false) (w : World) :
    Calls Try.prog 9 #[.int .i64 e, .int .i64 n] w fun r w' => r = .returned (.tuple #[.int .i64 0, .int .i64 1]) ∧ w = w' := by
  simp only [endB, decide_eq_false_iff_not] at h
  have HH := Lib.hid h
  clear h
  by_cases h1 : e < 0
  · go_enter Try.func9, Try.ntmps9
    go_wp2; go_ret2; exact ⟨rfl, rfl⟩
  by_cases h2 : 1073741824 < e
  · go_enter Try.func9, Try.ntmps9
    go_wp2; go_ret2; exact ⟨rfl, rfl⟩
  by_cases h3 : n < 0
  · go_enter Try.func9, Try.ntmps9
    go_wp2; go_ret2; exact ⟨rfl, rfl⟩
  by_cases h4 : 1016 < n
  · go_enter Try.func9, Try.ntmps9
    go_wp2; go_ret2; exact ⟨rfl, rfl⟩
  have h5 : (n % 8 != 0) = true := by
    by_cases h : n % 8 = 0
    · exact absurd ⟨by omega, by omega, by omega, by omega, h⟩ HH.out
    · simp [h]
  go_enter Try.func9, Try.ntmps9
  go_wp2; go_ret2; exact ⟨rfl, rfl⟩

theorem ref16_end_yes (e n : Int) (h : endB e n = true) (w : World) :
    Calls Try.prog 10 #[.int .i64 e, .int .i64 n] w fun r w' => r = .returned (.int .i64 (e * 4294967296 + n)) ∧ w = w' := by
  obtain ⟨h1, h2, h3, h4, h5⟩ := endB_iff.1 h
  have h5' : (n % 8 != 0) = false := by simp [h5]
  clear h5 h
  go_enter Try.func10, Try.ntmps10
  go_wp2
  go_ret
  exact ⟨rfl, rfl⟩

theorem ref16_end_no (e n : Int) (h : endB e n = false) (w : World) :
    Calls Try.prog 10 #[.int .i64 e, .int .i64 n] w fun r w' => r = .returned (.int .i64 (-1)) ∧ w = w' := by
  simp only [endB, decide_eq_false_iff_not] at h
  have HH := Lib.hid h
  clear h
  by_cases h1 : e < 0
  · go_enter Try.func10, Try.ntmps10
    go_wp2; go_ret; exact ⟨rfl, rfl⟩
  by_cases h2 : 1073741824 < e
  · go_enter Try.func10, Try.ntmps10
    go_wp2; go_ret; exact ⟨rfl, rfl⟩
  by_cases h3 : n < 0
  · go_enter Try.func10, Try.ntmps10
    go_wp2; go_ret; exact ⟨rfl, rfl⟩
  by_cases h4 : 1016 < n
  · go_enter Try.func10, Try.ntmps10
    go_wp2; go_ret; exact ⟨rfl, rfl⟩
  have h5 : (n % 8 != 0) = true := by
    by_cases h : n % 8 = 0
    · exact absurd ⟨by omega, by omega, by omega, by omega, h⟩ HH.out
    · simp [h]
  go_enter Try.func10, Try.ntmps10
  go_wp2; go_ret; exact ⟨rfl, rfl⟩

theorem clog_split_yes (x : Int) (h : endB (x / 4294967296) (x % 4294967296) = true) (w : World) :
    Calls Try.prog 11 #[.int .i64 x] w fun r w' => r = .returned (.tuple #[.int .i64 (x / 4294967296), .int .i64 (x % 4294967296), .bool true]) ∧ w = w' := by
  have hm := i64_mask32 x
  obtain ⟨p, hp⟩ : ∃ p, p = x / 4294967296 := ⟨_, rfl⟩
  obtain ⟨n, hn⟩ : ∃ n, n = x % 4294967296 := ⟨_, rfl⟩
  rw [← hp, ← hn] at h ⊢
  rw [← hn] at hm
  have hp' : x / 4294967296 = p := hp.symm
  have HP := Lib.hid hp
  clear hp hn
  go_enter Try.func11, Try.ntmps11
  go_wp2_with fail
  refine (clog_end_yes p n h _).mono ?_
  rintro e w1 ⟨rfl, rfl⟩
  go_wp2_with fail
  go_ret3
  exact ⟨rfl, rfl⟩

theorem clog_split_no (x : Int) (h : endB (x / 4294967296) (x % 4294967296) = false) (w : World) :
    Calls Try.prog 11 #[.int .i64 x] w fun r w' => r = .returned (.tuple #[.int .i64 0, .int .i64 0, .bool false]) ∧ w = w' := by
  have hm := i64_mask32 x
  obtain ⟨p, hp⟩ : ∃ p, p = x / 4294967296 := ⟨_, rfl⟩
  obtain ⟨n, hn⟩ : ∃ n, n = x % 4294967296 := ⟨_, rfl⟩
  rw [← hp, ← hn] at h
  rw [← hn] at hm
  have hp' : x / 4294967296 = p := hp.symm
  have HP := Lib.hid hp
  clear hp hn
  go_enter Try.func11, Try.ntmps11
  go_wp2_with fail
  refine (clog_end_no p n h _).mono ?_
  rintro e w1 ⟨rfl, rfl⟩
  go_wp2_with fail
  go_ret3
  exact ⟨rfl, rfl⟩
end Go.Proofs.Ytnbgkkjhmdfmiaa
