/- clog.Scan. commonsref16.Encode. The reference's Decode. commonsref16.Scan. No statement of the seat is proved here. -/
import Derived.Test.YtnbgkkjhmdfmiaaZ06
import Derived.Test.YtnbgkkjhmdfmiaaZ07
import Derived.Test.YtnbgkkjhmdfmiaaZ02
import Derived.Test.YtnbgkkjhmdfmiaaZ04
namespace Go.Proofs.Ytnbgkkjhmdfmiaa
open Go.RowKit

theorem decR_yes {A : Option Addr} {n c : Nat} {bs : List UInt8} {w : World} (hs : Sl w A n bs) (hc : n ≤ c) (h : decE bs = 0) (r : R5) (hr : recOf bs = r) (L : Nat) (hL : decL bs = L) :
    Calls Try.prog 17 #[.slice A n c] w fun e w' => e = .returned (.tuple #[.agg #[.int .i64 r.call, .int .i64 r.ino, .bool r.tr, .int .i64 r.off, .string r.dat], .int .i64 (L : Nat), .int .i64 0]) ∧ Grow w w' := by
  subst hr hL
  refine (clog_decode hs hc).mono ?_
  rintro e w' ⟨rfl, g⟩
  refine ⟨?_, g⟩
  rw [recW, if_pos h, h]
  rfl
theorem decR_no {A : Option Addr} {n c : Nat} {bs : List UInt8} {w : World} (hs : Sl w A n bs) (hc : n ≤ c) (y : Int) (h : decE bs = y) (h0 : y ≠ 0) :
    Calls Try.prog 17 #[.slice A n c] w fun e w' => e = .returned (.tuple #[.agg #[.int .i64 0, .int .i64 0, .bool false, .int .i64 0, .string ⟨#[]⟩], .int .i64 0, .int .i64 y]) ∧ Grow w w' := by
  subst h
  refine (clog_decode hs hc).mono ?_
  rintro e w' ⟨rfl, g⟩
  refine ⟨?_, g⟩
  rw [recW, if_neg h0, decL, if_neg h0]
  rfl

theorem midB_eq (bs : List UInt8) (n h : Nat) : ((bs.drop 8).take n).drop h = midB bs n h := by
  rw [midB, List.drop_take, List.drop_drop]

/-- The records of a log and their ends. -/
def scanP (b : List UInt8) (epoch head : Int) : List (R5 × Int) :=
  if endB (getN b 0 8 / 4294967296) (getN b 0 8 % 4294967296) = true ∧ getN b 0 8 / 4294967296 = epoch ∧ 0 ≤ head then scanW b (getN b 0 8 % 4294967296).toNat head.toNat else []

/-- What holds at each round of the scan. -/
def ScanInv (w wr : World) (bs : List UInt8) (n h0 : Nat) (hd v u : Value) : Prop := ∃ (h : Nat) (L : List R5) (K : List Int), hd = .int .i64 (h : Int) ∧ h ≤ n ∧ L.length ≤ h ∧ K.length ≤ h ∧ Two wr w.heap.size v L u K ∧ Grow w wr ∧ Hid (L ++ (scanW bs n h).map (·.1) = (scanW bs n h0).map (·.1) ∧ K ++ (scanW bs n h).map (·.2) = (scanW bs n h0).map (·.2))

set_option maxHeartbeats 1000000 in
theorem clog_scan_loop {A : Option Addr} {k c : Nat} {bs : List UInt8} {w : World} (hs : Sl w A k bs) (hk : k = 1024) (hc : k ≤ c) (epoch : Int) (n h0 : Nat) (hn : n ≤ 1016) (hh0 : h0 ≤ n) (N : Int) (hN : getN bs 0 8 = N) (hE : endB (N / 4294967296) (N % 4294967296) = true) (he : N / 4294967296 = epoch) (hm : N % 4294967296 = (n : Int)) :
    Calls Try.prog 21 #[.slice A k c, .int .i64 epoch, .int .i64 (h0 : Nat)] w fun e w' => ∃ v u, e = .returned (.tuple #[v, u]) ∧ Two w' w.heap.size v ((scanW bs n h0).map (·.1)) u ((scanW bs n h0).map (·.2)) ∧ Grow w w' := by
  have HL := Lib.hid hs.1
  have k1 : k ≤ 1024 := by omega
  have k2 : 1024 ≤ k := by omega
  have k3 : ((k : Int) != 1024) = false := by rw [hk]; rfl
  clear hk
  obtain ⟨g, o, rfl, hg, -⟩ := hs.all (by omega)
  have h8 := (hs.drop (k := 8) (by omega) hc).take (k := n) (by omega)
  rw [if_neg (by omega), show (some (⟨g, o, none⟩ : Addr)).map (·.add 8) = some ⟨g, o + 8, none⟩ by simp [Addr.add_lit]] at h8
  have HE := Lib.hid hE
  have HN := Lib.hid hN
  have i1 : 8 + (n : Int) ≤ (c : Int) := by omega
  have i2 : (8 + (n : Int)).toNat = 8 + n := by omega
  have i3 : 8 + n ≤ c := by omega
  have z1 : decide (n < h0) = false := decide_eq_false (by omega)
  have z2 : decide ((h0 : Int) < 0) = false := by simp
  have z3 : decide ((n : Int) < (h0 : Int)) = false := decide_eq_false (by omega)
  clear hE hN
  go_enter Try.func21, Try.ntmps21
  go_wp2_with fail
  go_step3
  go_wp2_with fail
  refine (get_s (at_ := 0) (x := 8) hs (by decide) (by decide)).mono ?_
  rintro e w' ⟨rfl, rfl⟩
  rw [HN.out]
  go_wp2_with fail
  refine (clog_split_yes _ HE.out _).mono ?_
  rintro e w' ⟨rfl, rfl⟩
  rw [he, hm]
  clear he hm HE HN
  go_wp2_with fail
  go_step3
  go_wp2_with fail
  go_loopw [2, 13, 14] (fun hd v u wr => ScanInv w wr bs n h0 hd v u) (fun hd _ _ _ => n - (intOf hd).toNat)
  case atStart => exact ⟨h0, [], [], by simp, hh0, by simp, by simp, Two.nil _ _, Grow.refl _, Lib.hid ⟨rfl, rfl⟩⟩
  case round =>
    obtain ⟨h, L, K, rfl, hh, hL, hK, HT, G, HS⟩ := hrel
    by_cases hlt : h < n
    · have hd := (h8.keep G).drop (k := h) (c := c - 8) (by omega) (by omega)
      rw [if_neg (by omega), show (some (⟨g, o + 8, none⟩ : Addr)).map (·.add h) = some ⟨g, o + 8 + h, none⟩ by simp [Addr.add_lit], midB_eq] at hd
      by_cases hD : decE (midB bs n h) = 0
      · obtain ⟨r, hr⟩ : ∃ r, recOf (midB bs n h) = r := ⟨_, rfl⟩
        obtain ⟨D, hDL⟩ : ∃ D, decL (midB bs n h) = D := ⟨_, rfl⟩
        have hst := scanW_step (by rw [HL.out]; omega) hlt hD
        have hgo := scanW_go hlt hD
        rw [hDL] at hst
        rw [hr, hDL] at hgo
        have HR := Lib.hid hr
        have HDL := Lib.hid hDL
        have HGO := Lib.hid hgo
        have HD := Lib.hid hD
        have hst1 := hst.1
        have hst2 := hst.2
        clear hr hDL hgo hD hst
        go_wp2_with fail
        refine (decR_yes hd (by omega) HD.out r HR.out D HDL.out).mono ?_
        rintro e w1 ⟨rfl, g1⟩
        have HT1 := HT.keep g1
        have G1 := G.trans g1
        have hz1 := G1.size
        clear HT G g1 hd
        have K4 := Blk.new w1 31 [.int .i64 r.call, .int .i64 r.ino, .bool r.tr, .int .i64 r.off, .string r.dat] _ (0, 0) rfl
        have t0 := K4.2 0 _ rfl; have t1 := K4.2 1 _ rfl; have t2 := K4.2 2 _ rfl; have t3 := K4.2 3 _ rfl; have t4 := K4.2 4 _ rfl
        clear K4
        go_wp2_with ((first
          | (at_builtin; refine wpList_appR1 rfl (.tmp 68) (.tmp 70) rfl w.heap.size _ _ L K rfl r (by first | rfl | (show Value.slice (some ⟨w1.heap.size + 1, 0, none⟩) 1 1 = _; simp)) (by exact HT1.keep ((Grow.refl _).alloc _)) (by omega) (by simp; omega) ?_; intro v2 w2 q1 q2)
          | (at_builtin; refine wpList_appI1 rfl (.tmp 72) (.tmp 74) rfl w.heap.size _ _ (L ++ [r]) K rfl _ (by rfl) q1 (by omega) (by have := Below.size q2; simp at this; omega) ?_; intro u3 w3 q3 q4)))
        have X : ScanInv w w3 bs n h0 (.int .i64 ((h : Int) + (D : Int))) v2 u3 := by
          refine ⟨h + D, L ++ [r], K ++ [((h + D : Nat) : Int)], by simp, by omega, by simp; omega, by simp; omega, by simpa using q3, ((G1.alloc _).low (q2.mono (by omega))).low q4, Lib.hid ?_⟩
          rw [← HS.out.1, ← HS.out.2, HGO.out]
          simp
        go_roundw
        case rel => first | exact X | ((repeat apply Exists.intro); refine ⟨X, ?_⟩; first | rfl | simp [z1, z2])
        case measure => simp [intOf]; omega
      · obtain ⟨y, hy⟩ : ∃ y, decE (midB bs n h) = y := ⟨_, rfl⟩
        have hb := scanW_bad hD
        rw [hy] at hD
        have HY := Lib.hid hy
        have hyb : (y != 0) = true := by rw [bne_iff_ne]; exact hD
        have hHS : L = (scanW bs n h0).map (·.1) ∧ K = (scanW bs n h0).map (·.2) := by have := HS.out; rw [hb] at this; simpa using this
        have HS2 := Lib.hid hHS
        have HY0 := Lib.hid hD
        clear hy hb hHS HS hD
        go_wp2_with fail
        refine (decR_no hd (by omega) y HY.out HY0.out).mono ?_
        rintro e w1 ⟨rfl, g1⟩
        go_wp2_with fail
        rw [Exit.noGoto_ret]
        go_ret2
        exact ⟨_, _, rfl, by rw [← HS2.out.1, ← HS2.out.2]; exact HT.keep (g1.alloc _), (G.trans g1).alloc _⟩
    · have hb := scanW_end (b := bs) hlt
      have hHS : L = (scanW bs n h0).map (·.1) ∧ K = (scanW bs n h0).map (·.2) := by have := HS.out; rw [hb] at this; simpa using this
      have HS2 := Lib.hid hHS
      clear hb hHS HS
      go_wp2_with fail
      rw [Exit.noGoto_ret]
      go_ret2
      exact ⟨_, _, rfl, by rw [← HS2.out.1, ← HS2.out.2]; exact HT, G⟩

theorem clog_scan_size {A : Option Addr} {k c : Nat} {w : World} (hk : k ≠ 1024) (epoch head : Int) :
    Calls Try.prog 21 #[.slice A k c, .int .i64 epoch, .int .i64 head] w fun e w' => e = .returned (.tuple #[.slice none 0 0, .slice none 0 0]) ∧ w = w' := by
  have k3 : ((k : Int) != 1024) = true := by rw [bne_iff_ne]; omega
  clear hk
  go_enter Try.func21, Try.ntmps21
  go_wp2_with fail
  go_step3
  go_wp2_with fail
  rw [Exit.noGoto_ret]
  go_ret2
  exact ⟨rfl, rfl⟩

theorem clog_scan_noend {A : Option Addr} {k c : Nat} {bs : List UInt8} {w : World} (hs : Sl w A k bs) (hk : k = 1024) (epoch head : Int) (N : Int) (hN : getN bs 0 8 = N) (hE : endB (N / 4294967296) (N % 4294967296) = false) :
    Calls Try.prog 21 #[.slice A k c, .int .i64 epoch, .int .i64 head] w fun e w' => e = .returned (.tuple #[.slice none 0 0, .slice none 0 0]) ∧ w = w' := by
  have k3 : ((k : Int) != 1024) = false := by rw [hk]; rfl
  have HE := Lib.hid hE
  have HN := Lib.hid hN
  clear hk hE hN
  go_enter Try.func21, Try.ntmps21
  go_wp2_with fail
  go_step3
  go_wp2_with fail
  refine (get_s (at_ := 0) (x := 8) hs (by decide) (by decide)).mono ?_
  rintro e w' ⟨rfl, rfl⟩
  rw [HN.out]
  go_wp2_with fail
  refine (clog_split_no _ HE.out _).mono ?_
  rintro e w' ⟨rfl, rfl⟩
  go_wp2_with fail
  rw [Exit.noGoto_ret]
  go_ret2
  exact ⟨rfl, rfl⟩

theorem clog_scan_not {A : Option Addr} {k c : Nat} {bs : List UInt8} {w : World} (hs : Sl w A k bs) (hk : k = 1024) (epoch head : Int) (N p n : Int) (hN : getN bs 0 8 = N) (hE : endB (N / 4294967296) (N % 4294967296) = true) (hp : N / 4294967296 = p) (hm : N % 4294967296 = n) (hb : p ≠ epoch ∨ head < 0 ∨ n < head) :
    Calls Try.prog 21 #[.slice A k c, .int .i64 epoch, .int .i64 head] w fun e w' => e = .returned (.tuple #[.slice none 0 0, .slice none 0 0]) ∧ w = w' := by
  have k3 : ((k : Int) != 1024) = false := by rw [hk]; rfl
  have HE := Lib.hid hE
  have HN := Lib.hid hN
  have HP := Lib.hid hp
  have HM := Lib.hid hm
  have HB := Lib.hid hb
  clear hk hE hN hp hm hb
  by_cases b1 : p = epoch
  · have b1' : (p != epoch) = false := by rw [bne_eq_false_iff_eq]; exact b1
    have HB1 := Lib.hid b1
    clear b1
    by_cases b2 : head < 0
    · have HB2 := Lib.hid b2
      have b2' : decide (head < 0) = true := decide_eq_true b2
      clear b2
      go_enter Try.func21, Try.ntmps21
      go_wp2_with fail
      go_step3
      go_wp2_with fail
      refine (get_s (at_ := 0) (x := 8) hs (by decide) (by decide)).mono ?_
      rintro e w' ⟨rfl, rfl⟩
      rw [HN.out]
      go_wp2_with fail
      refine (clog_split_yes _ HE.out _).mono ?_
      rintro e w' ⟨rfl, rfl⟩
      rw [HP.out, HM.out]
      go_wp2_with fail
      rw [Exit.noGoto_ret]
      go_ret2
      exact ⟨rfl, rfl⟩
    · have b3 : n < head := HB.out.elim (fun h => absurd HB1.out h) (fun h => h.elim (fun h => absurd h b2) id)
      have b2' : decide (head < 0) = false := decide_eq_false b2
      have b3' : decide (n < head) = true := decide_eq_true b3
      clear b2 b3
      go_enter Try.func21, Try.ntmps21
      go_wp2_with fail
      go_step3
      go_wp2_with fail
      refine (get_s (at_ := 0) (x := 8) hs (by decide) (by decide)).mono ?_
      rintro e w' ⟨rfl, rfl⟩
      rw [HN.out]
      go_wp2_with fail
      refine (clog_split_yes _ HE.out _).mono ?_
      rintro e w' ⟨rfl, rfl⟩
      rw [HP.out, HM.out]
      go_wp2_with fail
      rw [Exit.noGoto_ret]
      go_ret2
      exact ⟨rfl, rfl⟩
  · have b1' : (p != epoch) = true := by rw [bne_iff_ne]; exact b1
    clear b1
    go_enter Try.func21, Try.ntmps21
    go_wp2_with fail
    go_step3
    go_wp2_with fail
    refine (get_s (at_ := 0) (x := 8) hs (by decide) (by decide)).mono ?_
    rintro e w' ⟨rfl, rfl⟩
    rw [HN.out]
    go_wp2_with fail
    refine (clog_split_yes _ HE.out _).mono ?_
    rintro e w' ⟨rfl, rfl⟩
    rw [HP.out, HM.out]
    go_wp2_with fail
    rw [Exit.noGoto_ret]
    go_ret2
    exact ⟨rfl, rfl⟩

theorem clog_scan {A : Option Addr} {k c : Nat} {bs : List UInt8} {w : World} (hs : Sl w A k bs) (hk : k = 1024) (hc : k ≤ c) (epoch head : Int) :
    Calls Try.prog 21 #[.slice A k c, .int .i64 epoch, .int .i64 head] w fun e w' => ∃ v u, e = .returned (.tuple #[v, u]) ∧ Two w' w.heap.size v ((scanP bs epoch head).map (·.1)) u ((scanP bs epoch head).map (·.2)) ∧ Grow w w' := by
  cases hE : endB (getN bs 0 8 / 4294967296) (getN bs 0 8 % 4294967296) with
  | true =>
    obtain ⟨-, -, e3, e4, -⟩ := endB_iff.1 hE
    by_cases hb : getN bs 0 8 / 4294967296 ≠ epoch ∨ head < 0 ∨ getN bs 0 8 % 4294967296 < head
    · have h0 : scanP bs epoch head = [] := by
        unfold scanP
        split
        · rename_i q
          refine scanW_end ?_
          rcases hb with h | h | h
          · exact absurd q.2.1 h
          · omega
          · omega
        · rfl
      refine (clog_scan_not hs hk epoch head _ _ _ rfl hE rfl rfl hb).mono ?_
      rintro e w' ⟨rfl, rfl⟩
      rw [h0]
      exact ⟨_, _, rfl, Two.nil _ _, Grow.refl _⟩
    · obtain ⟨q1, q2, q3⟩ : getN bs 0 8 / 4294967296 = epoch ∧ 0 ≤ head ∧ head ≤ getN bs 0 8 % 4294967296 := by
        refine ⟨Classical.byContradiction fun h => hb (.inl h), by omega, by omega⟩
      obtain ⟨h0, rfl⟩ := Int.eq_ofNat_of_zero_le q2
      have e5 : getN bs 0 8 % 4294967296 = (((getN bs 0 8 % 4294967296).toNat : Nat) : Int) := by omega
      have := clog_scan_loop hs hk hc epoch (getN bs 0 8 % 4294967296).toNat h0 (by omega) (by omega) _ rfl hE q1 e5
      have h1 : scanP bs epoch (h0 : Nat) = scanW bs (getN bs 0 8 % 4294967296).toNat h0 := by
        unfold scanP
        rw [if_pos ⟨hE, q1, q2⟩]
        rfl
      rw [h1]
      exact this
  | false =>
    refine (clog_scan_noend hs hk epoch head _ rfl hE).mono ?_
    rintro e w' ⟨rfl, rfl⟩
    have h0 : scanP bs epoch head = [] := by
      unfold scanP
      rw [if_neg (by rw [hE]; simp)]
    rw [h0]
    exact ⟨_, _, rfl, Two.nil _ _, Grow.refl _⟩
end Go.Proofs.Ytnbgkkjhmdfmiaa

namespace Go.Proofs.Ytnbgkkjhmdfmiaa
open Go.RowKit

theorem ref16_encode_no (call inode off : Int) (tr : Bool) (s : ByteArray) (hm : mayR call inode tr off s.size = false) (w : World) :
    Calls Try.prog 15 #[.agg #[.int .i64 call, .int .i64 inode, .bool tr, .int .i64 off, .string s]] w fun e w' => e = .returned (.tuple #[.slice none 0 0, .int .i64 1]) ∧ Below w.heap.size w w' := by
  have HM := Lib.hid hm
  clear hm
  go_enter Try.func15, Try.ntmps15
  go_wp2_with fail
  refine (ref15_may call inode off tr s _).mono ?_
  rintro e w1 ⟨rfl, hb1⟩
  rw [HM.out]
  go_wp2_with fail
  go_ret2
  exact ⟨rfl, ((Below.refl _ _).alloc (Nat.le_refl _) _).trans (hb1.mono (by simp))⟩

theorem leB_one (n : Nat) : leB n 1 = [UInt8.ofNat (n % 256)] := rfl
theorem byte_small (n : Nat) (h : n < 256) : ((UInt8.ofNat (n % 256)).toNat : Int) = (n : Int) := by simp; omega

theorem pad_form {w : World} {base : Nat} {v : Value} {bs : List UInt8} {j : Nat} (h : OB w base v (bs ++ List.replicate j 0)) : ∃ A c N, N = bs.length + j ∧ v = .slice A N c ∧ OB w base (.slice A N c) (bs ++ List.replicate j 0) := by
  obtain ⟨A, c, rfl, -, -, -, -⟩ := h.form
  exact ⟨A, c, _, by simp, rfl, h⟩
theorem pad_snoc (bs : List UInt8) (j : Nat) : bs ++ List.replicate j 0 ++ [0] = bs ++ List.replicate (j + 1) 0 := by
  rw [List.append_assoc, List.replicate_succ']
def lenS : Value → Nat
  | .slice _ n _ => n
  | _ => 0

set_option maxHeartbeats 4000000 in
theorem ref16_encode_yes (call inode off : Int) (tr : Bool) (s : ByteArray) (hm : mayR call inode tr off s.size = true) (w : World) :
    Calls Try.prog 15 #[.agg #[.int .i64 call, .int .i64 inode, .bool tr, .int .i64 off, .string s]] w fun e w' => ∃ v, e = .returned (.tuple #[v, .int .i64 0]) ∧ OB w' w.heap.size v (encB call inode tr off s.data.toList) ∧ Below w.heap.size w w' := by
  obtain ⟨m1, m2, m3, m4, m5, m6, m7, m8, -⟩ := mayR_iff.1 hm
  have HM := Lib.hid hm
  clear hm
  have hI : ((UInt8.ofNat (inode.toNat % 256)).toNat : Int) = inode := by rw [byte_small _ (by omega)]; omega
  have hS : ((UInt8.ofNat (s.size % 256)).toNat : Int) = (s.size : Int) := byte_small _ (by omega)
  have HI := Lib.hid hI
  have HS := Lib.hid hS
  clear hI hS
  cases tr
  all_goals
    go_enter Try.func15, Try.ntmps15
    go_wp2_with fail
    refine (ref15_may call inode off _ s _).mono ?_
    rintro e w1 ⟨rfl, hb1⟩
    rw [HM.out]
    obtain ⟨B0, hB0⟩ : ∃ B0, B0 = w.heap.size + 1 := ⟨_, rfl⟩
    have hbW := hb1.mono (B' := B0) (by simp [hB0])
    have hz1 : B0 ≤ w1.heap.size := by have := hb1.size; simp at this; omega
    have hR0 := RecAt.new w 31 call inode off
    have hgB : w.heap.size < B0 := by omega
    have HB0 := Lib.hid hB0
    clear hB0 hb1
    obtain ⟨k0, k1, k2, k3, k4⟩ := (hR0 _ s).below hbW hgB
    have HR0 := Lib.hid hR0
    clear hR0
    go_wp2_with fail
    refine (ref1_put none [] 0 call 8 _ RB.nil_ (by simp) (by omega)).mono ?_
    rintro e w2 ⟨v2, rfl, hown2, hb2⟩
    clear k0 k1 k2 k3 k4
    rw [putB_fits (by simp [fitsB, m1])] at hown2
    replace hown2 := hown2.lower (base := B0) hz1
    replace hbW := hbW.trans (hb2.mono hz1)
    have hz2 : B0 ≤ w2.heap.size := Nat.le_trans hz1 hb2.size
    clear hb2 hz1
    obtain ⟨k0, k1, k2, k3, k4⟩ := (HR0.out _ s).below hbW hgB
    obtain ⟨b2, hd2⟩ : ∃ b2, b2 = [] ++ leB call.toNat (Int.toNat 8) := ⟨_, rfl⟩
    rw [← hd2] at hown2
    have hl2 : b2.length = 8 := by rw [hd2]; simp [leB_length]
    have HD2 := Lib.hid hd2
    have HL2 := Lib.hid hl2
    clear hd2 hl2
    go_wp2_with (at_builtin; (first | (refine wpList_app2 rfl (.tmp 16) (.tmp 21) rfl B0 _ b2 rfl _ 0 rfl hown2 (UInt8.ofNat (inode.toNat % 256)) (0 : UInt8) HI.out (by decide) (by have := HL2.out; omega) hz2 ?_) | (refine wpList_app2 rfl (.tmp 16) (.tmp 21) rfl B0 _ b2 rfl _ 1 rfl hown2 (UInt8.ofNat (inode.toNat % 256)) (1 : UInt8) HI.out (by decide) (by have := HL2.out; omega) hz2 ?_)); intro v3 w3 hown3 hb3; have j3 := ((HR0.out _ s).below (hbW.trans hb3) hgB).c3)
    first | (obtain ⟨b3, hown3, hd3⟩ : ∃ b3, OB w3 B0 v3 b3 ∧ b3 = b2 ++ [UInt8.ofNat (inode.toNat % 256), 0] := ⟨_, hown3, rfl⟩) | (obtain ⟨b3, hown3, hd3⟩ : ∃ b3, OB w3 B0 v3 b3 ∧ b3 = b2 ++ [UInt8.ofNat (inode.toNat % 256), 1] := ⟨_, hown3, rfl⟩)
    clear k0 k1 k2 k3 k4 hown2 j3
    replace hbW := hbW.trans hb3
    have hz3 : B0 ≤ w3.heap.size := Nat.le_trans hz2 hb3.size
    clear hb3 hz2
    obtain ⟨k0, k1, k2, k3, k4⟩ := (HR0.out _ s).below hbW hgB
    have hl3 : b3.length = 10 := by rw [hd3]; simp [HL2.out]
    have HD3 := Lib.hid hd3
    have HL3 := Lib.hid hl3
    clear hd3 hl3
    obtain ⟨A3, c3, rfl, -, -, hrd3, -⟩ := hown3.form
    refine (ref1_put A3 b3 c3 off 2 _ hrd3 (by have := HL3.out; omega) (by omega)).mono ?_
    rintro e w4 ⟨v4, rfl, hown4, hb4⟩
    clear k0 k1 k2 k3 k4
    rw [putB_fits (by simp [fitsB]; omega)] at hown4
    replace hown4 := hown4.lower (base := B0) hz3
    replace hbW := hbW.trans (hb4.mono hz3)
    have hz4 : B0 ≤ w4.heap.size := Nat.le_trans hz3 hb4.size
    clear hb4 hz3 hown3 hrd3
    obtain ⟨k0, k1, k2, k3, k4⟩ := (HR0.out _ s).below hbW hgB
    obtain ⟨b4, hd4⟩ : ∃ b4, b4 = b3 ++ leB off.toNat (Int.toNat 2) := ⟨_, rfl⟩
    rw [← hd4] at hown4
    have hl4 : b4.length = 12 := by rw [hd4]; simp [leB_length, HL3.out]
    have HD4 := Lib.hid hd4
    have HL4 := Lib.hid hl4
    clear hd4 hl4
    go_wp2_with (at_builtin; first | (refine wpList_app1 rfl (.tmp 27) (.tmp 32) rfl B0 _ b4 rfl _ rfl hown4 (UInt8.ofNat (s.size % 256)) HS.out (by have := HL4.out; omega) hz4 ?_; intro v5 w5 hown5 hb5; have hz5 := Nat.le_trans hz4 hb5.size; have j4 := ((HR0.out _ s).below (hbW.trans hb5) hgB).c4) | (refine wpList_appS rfl (.tmp 34) (.tmp 36) rfl B0 _ _ rfl hown5 s rfl (by have := HL4.out; simp; omega) hz5 ?_; intro v6 w6 hown6 hb6))
    clear k0 k1 k2 k3 k4 j4 hown4 hown5
    obtain ⟨A6, c6, rfl, -, -, hrd6, -⟩ := hown6.form
    obtain ⟨b6, hd6⟩ : ∃ b6, b6 = b4 ++ [UInt8.ofNat (s.size % 256)] ++ s.data.toList := ⟨_, rfl⟩
    rw [← hd6] at hown6 hrd6 ⊢
    have hl6 : b6.length = 13 + s.size := by rw [hd6, List.length_append, List.length_append, HL4.out, data_length]; simp
    have HD6 := Lib.hid hd6
    have HL6 := Lib.hid hl6
    clear hd6 hl6
    replace hbW := (hbW.trans hb5).trans hb6
    have hz6 : B0 ≤ w6.heap.size := Nat.le_trans hz5 hb6.size
    clear hb5 hb6 hz4 hz5
    refine (ref2_sum A6 b6 _ c6 rfl _ _ hrd6 (by have := HL6.out; omega)).mono ?_
    rintro e w7 ⟨rfl, rfl⟩
    obtain ⟨q, hq⟩ : ∃ q, q = crcN b6 := ⟨_, rfl⟩
    rw [← hq]
    have hq1 : q < 4294967296 := by rw [hq]; exact crcN_lt b6
    have HQ := Lib.hid hq
    clear hq
    go_wp2_with fail
    refine (ref1_put A6 b6 c6 q 4 _ hrd6 (by have := HL6.out; omega) (by omega)).mono ?_
    rintro e w8 ⟨v8, rfl, hown8, hb8⟩
    rw [putB_fits (by simp [fitsB]; omega)] at hown8
    replace hown8 := hown8.lower (base := B0) hz6
    replace hbW := hbW.trans (hb8.mono hz6)
    clear hb8 hrd6 hown6 hz6
    obtain ⟨b8, hd8⟩ : ∃ b8, b8 = b6 ++ leB (q : Int).toNat (Int.toNat 4) := ⟨_, rfl⟩
    rw [← hd8] at hown8
    have hl8 : b8.length = 17 + s.size := by rw [hd8, List.length_append, HL6.out, leB_length]; simp; omega
    have hz8 : B0 ≤ w8.heap.size := by have := hbW.size; simp at this; have := HB0.out; omega
    obtain ⟨f, hf⟩ : ∃ f, f = fillN b8.length := ⟨_, rfl⟩
    have hf8 : f < 8 ∧ (b8.length + f) % 8 = 0 ∧ ∀ j, j < f → (b8.length + j) % 8 ≠ 0 := by
      rw [hf, fillN]
      refine ⟨by omega, by omega, ?_⟩
      intro j hj
      omega
    have HD8 := Lib.hid hd8
    have HL8 := Lib.hid hl8
    have HF := Lib.hid hf
    have HF8 := Lib.hid hf8
    clear hd8 hl8 hf hf8
    go_wp2_with fail
    go_loopw [5] (fun v wr => ∃ j : Nat, j ≤ f ∧ (∃ A c N, N = b8.length + j ∧ v = .slice A N c ∧ OB wr B0 (.slice A N c) (b8 ++ List.replicate j 0)) ∧ Below B0 w8 wr) (fun v _ => b8.length + f - lenS v)
    case atStart => exact ⟨0, Nat.zero_le _, pad_form (by simpa using hown8), Below.refl _ _⟩
    case round =>
      obtain ⟨j, hj, ⟨A9, c9, N, hN, rfl, hown⟩, hb⟩ := hrel
      have hz9 : B0 ≤ _ := Nat.le_trans hz8 hb.size
      have hNs : N ≤ 1000 := by have := HL8.out; have := HF8.out.1; omega
      by_cases hlt : j < f
      · have hne := HF8.out.2.2 j hlt
        rw [← hN] at hne
        have hne1 : ((N : Int) % 8 != 0) = true := by simp; omega
        have HN := Lib.hid hN
        clear hN hne
        go_wp2_with (at_builtin; refine wpList_app1 rfl (.tmp 46) (.tmp 47) rfl B0 _ _ rfl _ rfl hown 0 (by rfl) (by have := HN.out; simp; omega) hz9 ?_; intro v9 w9 hown9 hb9)
        go_roundw
        case rel =>
          rw [pad_snoc] at hown9
          exact ⟨j + 1, by omega, pad_form hown9, hb.trans hb9⟩
        case measure =>
          rw [pad_snoc] at hown9
          obtain ⟨A1, c1, N1, h1, rfl, -⟩ := pad_form hown9
          have := HN.out
          simp [lenS]
          omega
      · obtain rfl : j = f := by omega
        have he := HF8.out.2.1
        rw [← hN] at he
        have he1 : ((N : Int) % 8 != 0) = false := by simp; omega
        have HN := Lib.hid hN
        clear hN he
        go_wp2
        go_ret2
        refine ⟨_, rfl, ?_, ((Below.refl _ _).alloc (Nat.le_refl _) _).trans ((hbW.trans hb).mono (by have := HB0.out; omega))⟩
        first
        | (
          have hh : b6 = headB call inode false off s.data.toList.length ++ s.data.toList := by
            rw [HD6.out, HD4.out, HD3.out, HD2.out, data_length]
            simp [headB, leB]
          have he : encB call inode false off s.data.toList = b8 ++ List.replicate j 0 := by
            rw [encB, ← hh, HF.out, HL8.out, HD8.out, HQ.out, data_length]
            simp
          rw [he]
          exact hown.lower (by have := HB0.out; omega))
        | (
          have hh : b6 = headB call inode true off s.data.toList.length ++ s.data.toList := by
            rw [HD6.out, HD4.out, HD3.out, HD2.out, data_length]
            simp [headB, leB]
          have he : encB call inode true off s.data.toList = b8 ++ List.replicate j 0 := by
            rw [encB, ← hh, HF.out, HL8.out, HD8.out, HQ.out, data_length]
            simp
          rw [he]
          exact hown.lower (by have := HB0.out; omega))
end Go.Proofs.Ytnbgkkjhmdfmiaa

namespace Go.Proofs.Ytnbgkkjhmdfmiaa
open Go.RowKit

theorem off_eq {b : List UInt8} (h : 17 ≤ b.length) : dOff b = by_ b 10 + 256 * by_ b 11 := by
  have e : (b.drop 10).take 2 = [b[10], b[11]] := by
    rw [List.drop_eq_getElem_cons (by omega), List.drop_eq_getElem_cons (by omega)]; rfl
  have h2 := (b[10]).toNat_lt
  have h3 := (b[11]).toNat_lt
  have := (get_small (bs := b) (a := 10) (k := 2) (m := leVal [b[10], b[11]]) (by decide) (by omega) (by rw [e]) (by simp [leVal]; omega)).1
  rw [dOff, show getN b 10 2 = getN b ((10 : Nat) : Int) ((2 : Nat) : Int) from rfl, this, by_get (by omega), by_get (by omega)]
  simp [leVal]

theorem ref16_decode_short {A : Option Addr} {n c : Nat} {bs : List UInt8} {w : World} (hs : Sl w A n bs) (hl : n < 13 ∨ n < 17 + dN bs) :
    Calls Try.prog 18 #[.slice A n c] w fun e w' => e = .returned (.tuple #[recW bs, .int .i64 (decL bs : Nat), .int .i64 (decE bs)]) ∧ Grow w w' := by
  have HL := Lib.hid hs.1
  by_cases h13 : n < 13
  · have HE := Lib.hid (show decE bs = 3 by rw [decE, if_pos (by rw [HL.out]; exact h13)])
    clear hl
    go_enter Try.func18, Try.ntmps18
    go_wp2_with fail
    rw [show recW bs = .agg #[.int .i64 0, .int .i64 0, .bool false, .int .i64 0, .string ⟨#[]⟩] by rw [recW, if_neg (by rw [HE.out]; omega)], show decL bs = 0 by rw [decL, if_neg (by rw [HE.out]; omega)], HE.out]
    refine bodyPost_ret (v := .tuple #[.agg #[.int .i64 0, .int .i64 0, .bool false, .int .i64 0, .string ⟨#[]⟩], .int .i64 0, .int .i64 3]) (by simp [results, Try.results18, go_sem]) rfl ⟨rfl, ?_⟩
    repeat (first | refine Grow.setCell ?_ (by simp) _ | refine Grow.alloc ?_ _)
    exact Grow.refl _
  · have h2 : n < 17 + dN bs := by
      rcases hl with h | h
      · exact absurd h h13
      · exact h
    have HE := Lib.hid (show decE bs = 3 by rw [decE, if_neg (by rw [HL.out]; exact h13), if_pos (by rw [HL.out]; exact h2)])
    obtain ⟨b, o, rfl, hb, hcell⟩ := hs.all (by omega)
    obtain ⟨nD, HN⟩ : ∃ nD, Hid (nD = dN bs) := ⟨_, Lib.hid rfl⟩
    have c12 : w.cell? ⟨b, o + 12, none⟩ = some (.int .u8 ((nD : Nat) : Int)) := by
      rw [hcell 12 (by omega), HN.out, ← dN_by, by_get (by rw [hs.1]; omega)]
    have hn1 : nD < 256 := by rw [HN.out]; exact dN_lt bs
    have hbz : b ≠ w.heap.size := by omega
    rw [← HN.out] at h2
    have h13' : 13 ≤ n := by omega
    clear hcell hl h13
    go_enter Try.func18, Try.ntmps18
    go_wp2_with fail
    rw [show recW bs = .agg #[.int .i64 0, .int .i64 0, .bool false, .int .i64 0, .string ⟨#[]⟩] by rw [recW, if_neg (by rw [HE.out]; omega)], show decL bs = 0 by rw [decL, if_neg (by rw [HE.out]; omega)], HE.out]
    refine bodyPost_ret (v := .tuple #[.agg #[.int .i64 0, .int .i64 0, .bool false, .int .i64 0, .string ⟨#[]⟩], .int .i64 0, .int .i64 3]) (by simp [results, Try.results18, go_sem]) rfl ⟨rfl, ?_⟩
    repeat (first | refine Grow.setCell ?_ (by simp) _ | refine Grow.alloc ?_ _)
    exact Grow.refl _

theorem ref16_decode_sum {A : Option Addr} {n c : Nat} {bs : List UInt8} {w : World} (hs : Sl w A n bs) (hc : n ≤ c) (hl : 17 + dN bs ≤ n) (hsum : getN bs ((13 + dN bs : Nat) : Int) 4 ≠ (crcN (bs.take (13 + dN bs)) : Nat)) :
    Calls Try.prog 18 #[.slice A n c] w fun e w' => e = .returned (.tuple #[recW bs, .int .i64 (decL bs : Nat), .int .i64 (decE bs)]) ∧ Grow w w' := by
  have HL := Lib.hid hs.1
  obtain ⟨b, o, rfl, hb, hcell⟩ := hs.all (by omega)
  obtain ⟨nD, HN⟩ : ∃ nD, Hid (nD = dN bs) := ⟨_, Lib.hid rfl⟩
  have c12 : w.cell? ⟨b, o + 12, none⟩ = some (.int .u8 ((nD : Nat) : Int)) := by
    rw [hcell 12 (by omega), HN.out, ← dN_by, by_get (by rw [hs.1]; omega)]
  have hn1 : nD < 256 := by rw [HN.out]; exact dN_lt bs
  have hbz : b ≠ w.heap.size := by omega
  rw [← HN.out] at hsum hl
  have HE := Lib.hid (show decE bs = 4 by rw [decE, if_neg (by rw [HL.out]; omega), if_neg (by rw [HL.out, ← HN.out]; omega), ← HN.out, if_neg hsum])
  have hG := Lib.hid (show getN bs (13 + (nD : Int)) 4 ≠ (crcN (bs.take (13 + nD)) : Nat) from hsum)
  clear hsum hcell
  go_enter Try.func18, Try.ntmps18
  go_wp2_with fail
  refine (rget_s (hs.alloc _) (by omega) (by omega)).mono ?_
  rintro e w1 ⟨rfl, rfl⟩
  obtain ⟨qq, Q0⟩ : ∃ q, Hid (q = getN bs (13 + (nD : Int)) 4) := ⟨_, Lib.hid rfl⟩
  rw [← Q0.out]
  go_wp2_with fail
  refine (rsum_s (bs := bs.take (13 + nD)) ((hs.take (k := 13 + nD) (by omega)).alloc _)).mono ?_
  rintro e w1 ⟨q, rfl, hq, hq1, rfl⟩
  have hne : (qq != (q : Int)) = true := by rw [bne_iff_ne, Q0.out, hq.out]; exact hG.out
  go_wp2_with fail
  rw [show recW bs = .agg #[.int .i64 0, .int .i64 0, .bool false, .int .i64 0, .string ⟨#[]⟩] by rw [recW, if_neg (by rw [HE.out]; omega)], show decL bs = 0 by rw [decL, if_neg (by rw [HE.out]; omega)], HE.out]
  refine bodyPost_ret (v := .tuple #[.agg #[.int .i64 0, .int .i64 0, .bool false, .int .i64 0, .string ⟨#[]⟩], .int .i64 0, .int .i64 4]) (by simp [results, Try.results18, go_sem]) rfl ⟨rfl, ?_⟩
  repeat (first | refine Grow.setCell ?_ (by simp) _ | refine Grow.alloc ?_ _)
  exact Grow.refl _

set_option maxHeartbeats 4000000 in
theorem ref16_decode_may {A : Option Addr} {n c : Nat} {bs : List UInt8} {w : World} (hs : Sl w A n bs) (hc : n ≤ c) (hl : 17 + dN bs ≤ n) (hsum : getN bs ((13 + dN bs : Nat) : Int) 4 = (crcN (bs.take (13 + dN bs)) : Nat)) :
    Calls Try.prog 18 #[.slice A n c] w fun e w' => e = .returned (.tuple #[recW bs, .int .i64 (decL bs : Nat), .int .i64 (decE bs)]) ∧ Grow w w' := by
  have HL := Lib.hid hs.1
  have HPQ := Lib.hid (sameP_eq (by rw [hs.1]; exact hl) hsum)
  have HS := Lib.hid hsum
  obtain ⟨b, o, rfl, hb, hcell⟩ := hs.all (by omega)
  have HC := Lib.hid (show ∀ k, k < n → w.cell? ⟨b, o + k, none⟩ = some (.int .u8 (by_ bs k)) by
    intro k hk
    rw [hcell k (by omega), by_get (by rw [hs.1]; omega)])
  obtain ⟨nD, HN⟩ : ∃ nD, Hid (nD = dN bs) := ⟨_, Lib.hid rfl⟩
  rw [← HN.out] at hl HS
  have c12 := HC.out 12 (by omega)
  rw [dN_by, ← HN.out] at c12
  have hn1 : nD < 256 := by rw [HN.out]; exact dN_lt bs
  have hbz : b ≠ w.heap.size := by omega
  have hbz1 : b ≠ w.heap.size + 1 := by omega
  have hbz2 : w.heap.size ≠ b := by omega
  have hbz3 : w.heap.size + 1 ≠ b := by omega
  have hbl1 : b < w.heap.size + 1 := by omega
  have hbl2 : b < w.heap.size + 1 + 1 := by omega
  have hG := Lib.hid (show getN bs (13 + (nD : Int)) 4 = (crcN (bs.take (13 + nD)) : Nat) from HS.out)
  have HDE := Lib.hid (show decE bs = if sameQ bs then 0 else 2 by rw [← HPQ.out, decE, if_neg (by rw [HL.out]; omega), if_neg (by rw [HL.out, ← HN.out]; omega), ← HN.out, if_pos HS.out])
  obtain ⟨x0, X0⟩ : ∃ x, Hid (x = dCall bs) := ⟨_, Lib.hid rfl⟩
  obtain ⟨x1, X1⟩ : ∃ x, Hid (x = dIno bs) := ⟨_, Lib.hid rfl⟩
  obtain ⟨x2, X2⟩ : ∃ x, Hid (x = by_ bs 9) := ⟨_, Lib.hid rfl⟩
  obtain ⟨x3, X3⟩ : ∃ x, Hid (x = dOff bs) := ⟨_, Lib.hid rfl⟩
  obtain ⟨u2, U2⟩ : ∃ x, Hid (x = by_ bs 10) := ⟨_, Lib.hid rfl⟩
  obtain ⟨u3, U3⟩ : ∃ x, Hid (x = by_ bs 11) := ⟨_, Lib.hid rfl⟩
  obtain ⟨kk, KK⟩ : ∃ x, Hid (x = getK bs 0 8) := ⟨_, Lib.hid rfl⟩
  obtain ⟨tr, TR⟩ : ∃ x, Hid (x = dTr bs) := ⟨_, Lib.hid rfl⟩
  have htr : (x2 == 1) = tr := by rw [TR.out, dTr, X2.out, Bool.eq_iff_iff]; simp
  have c8 := HC.out 8 (by omega)
  have c9 := HC.out 9 (by omega)
  have c10 := HC.out 10 (by omega)
  have c11 := HC.out 11 (by omega)
  rw [show by_ bs 8 = x1 from X1.out.symm] at c8
  rw [← X2.out] at c9
  rw [← U2.out] at c10
  rw [← U3.out] at c11
  obtain ⟨m10, m11⟩ : 0 ≤ x1 ∧ x1 < 256 := by rw [X1.out]; exact by_lt bs 8
  obtain ⟨m20, m21⟩ : 0 ≤ x2 ∧ x2 < 256 := by rw [X2.out]; exact by_lt bs 9
  obtain ⟨m30, m31⟩ : 0 ≤ u2 ∧ u2 < 256 := by rw [U2.out]; exact by_lt bs 10
  obtain ⟨m40, m41⟩ : 0 ≤ u3 ∧ u3 < 256 := by rw [U3.out]; exact by_lt bs 11
  have hsz : u2 + 256 * u3 = x3 := by rw [U2.out, U3.out, X3.out, off_eq (by rw [HL.out]; omega)]
  have hw1 : IntKind.i64.wrap (256 * u3) = 256 * u3 := IntWalk.i64_in _ (by omega)
  have hw2 : IntKind.i64.wrap (u2 + 256 * u3) = x3 := by rw [IntWalk.i64_in _ (by omega)]; exact hsz
  have hw3 : IntKind.i64.wrap u3 = u3 := IntWalk.i64_in _ (by omega)
  have hw4 : IntKind.i64.wrap u2 = u2 := IntWalk.i64_in _ (by omega)
  have hc13 : c ≠ 13 := by omega
  clear hcell hsum hsz
  go_enter Try.func18, Try.ntmps18
  go_wp2_with fail
  refine (rget_s (hs.alloc _) (by omega) (by omega)).mono ?_
  rintro e w1 ⟨rfl, rfl⟩
  obtain ⟨qq, Q0⟩ : ∃ q, Hid (q = getN bs (13 + (nD : Int)) 4) := ⟨_, Lib.hid rfl⟩
  rw [← Q0.out]
  go_wp2_with fail
  refine (rsum_s (bs := bs.take (13 + nD)) ((hs.take (k := 13 + nD) (by omega)).alloc _)).mono ?_
  rintro e w1 ⟨q, rfl, hq, hq1, rfl⟩
  have hne : (qq != (q : Int)) = false := by rw [bne_eq_false_iff_eq, Q0.out, hq.out]; exact hG.out
  go_wp2_with fail
  refine (rget_s ((hs.alloc _).alloc _) (by omega) (by omega)).mono ?_
  rintro e w1 ⟨rfl, rfl⟩
  rw [show getN bs 0 8 = x0 from X0.out.symm, ← KK.out]
  go_wp2_with fail
  go_region
  obtain ⟨sv, SV⟩ : ∃ sv : ByteArray, Hid (sv = ⟨(dDat bs).toArray⟩) := ⟨_, Lib.hid rfl⟩
  have hd : Sl w (some ⟨b, o + 13, none⟩) nD (dDat bs) := by
    have h1 := (hs.drop (k := 13) (c := c) (by omega) hc).take (k := nD) (by omega)
    rw [if_neg hc13, HN.out] at h1
    rw [HN.out]
    exact h1
  have cv1 : (convert 33 9 (.slice (some ⟨b, o + 13, none⟩) nD (c - 13))).run Try.prog (((w.alloc (.cells #[.int .i64 0, .int .i64 0, .bool false, .int .i64 0, .string ⟨#[]⟩] 31)).alloc (.cells #[.int .i64 x0, .int .i64 x1, .bool tr, .int .i64 x3, .string ⟨#[]⟩] 31)).drew) = .ok (.string sv) (((w.alloc (.cells #[.int .i64 0, .int .i64 0, .bool false, .int .i64 0, .string ⟨#[]⟩] 31)).alloc (.cells #[.int .i64 x0, .int .i64 x1, .bool tr, .int .i64 x3, .string ⟨#[]⟩] 31)).drew) := by
    rw [SV.out]; exact conv_s (((hd.alloc _).alloc _).drew)
  have cv2 : (convert 33 9 (.slice (some ⟨b, o + 13, none⟩) (13 + nD - 13) (c - 13))).run Try.prog (((w.alloc (.cells #[.int .i64 0, .int .i64 0, .bool false, .int .i64 0, .string ⟨#[]⟩] 31)).alloc (.cells #[.int .i64 x0, .int .i64 x1, .bool tr, .int .i64 x3, .string ⟨#[]⟩] 31)).drew) = .ok (.string sv) (((w.alloc (.cells #[.int .i64 0, .int .i64 0, .bool false, .int .i64 0, .string ⟨#[]⟩] 31)).alloc (.cells #[.int .i64 x0, .int .i64 x1, .bool tr, .int .i64 x3, .string ⟨#[]⟩] 31)).drew) := by
    rw [SV.out, show 13 + nD - 13 = nD by omega]; exact conv_s (((hd.alloc _).alloc _).drew)
  have ZR : Row (((w.alloc (.cells (List.toArray recZ) 31)).alloc (.cells (List.toArray [.int .i64 x0, .int .i64 x1, .bool tr, .int .i64 x3, .string sv]) 31)).drew) w.heap.size recZ := (Row.new w 31 _ _ rfl).keep (((Grow.refl _).alloc _).drew)
  have VR : Row (((w.alloc (.cells (List.toArray recZ) 31)).alloc (.cells (List.toArray [.int .i64 x0, .int .i64 x1, .bool tr, .int .i64 x3, .string sv]) 31)).drew) (w.heap.size + 1) [.int .i64 x0, .int .i64 x1, .bool tr, .int .i64 x3, .string sv] := by
    have := (Row.new (w.alloc (.cells (List.toArray recZ) 31)) 31 [.int .i64 x0, .int .i64 x1, .bool tr, .int .i64 x3, .string sv] _ rfl).keep ((Grow.refl _).drew)
    simpa using this
  have GV : Grow w (((w.alloc (.cells (List.toArray recZ) 31)).alloc (.cells (List.toArray [.int .i64 x0, .int .i64 x1, .bool tr, .int .i64 x3, .string sv]) 31)).drew) := (((Grow.refl _).alloc _).alloc _).drew
  have HLD := Lib.hid (show (dDat bs).length = nD by rw [dDat_length (by rw [HL.out, ← HN.out]; exact hl), HN.out])
  have HSZ := Lib.hid (show sv.size = nD by rw [← data_length, SV.out]; exact HLD.out)
  have HMM := Lib.hid (show mayR x0 x1 tr x3 sv.size = mayD bs by rw [mayD, HSZ.out, HN.out, X0.out, X1.out, X3.out, TR.out])
  have HZR := Lib.hid ZR
  have HVR := Lib.hid VR
  have HGV := Lib.hid GV
  clear ZR VR GV hw1 hw2 hw3 hw4
  go_wp2_with fail
  refine (ref15_may x0 x1 x3 tr sv _).mono ?_
  rintro e w5 ⟨rfl, g5⟩
  replace g5 : Grow _ w5 := g5
  have ZQ := HZR.out.keep g5
  have VQ := HVR.out.keep g5
  have G5 := HGV.out.trans g5
  have q0 := ZQ.1.2 0 _ rfl; have q1 := ZQ.1.2 1 _ rfl; have q2 := ZQ.1.2 2 _ rfl; have q3 := ZQ.1.2 3 _ rfl; have q4 := ZQ.1.2 4 _ rfl
  have r0 := ZQ.2 0 (by simp [recZ]); have r1 := ZQ.2 1 (by simp [recZ]); have r2 := ZQ.2 2 (by simp [recZ]); have r3 := ZQ.2 3 (by simp [recZ]); have r4 := ZQ.2 4 (by simp [recZ])
  have z0 := VQ.1.2 0 _ rfl; have z1 := VQ.1.2 1 _ rfl; have z2 := VQ.1.2 2 _ rfl; have z3 := VQ.1.2 3 _ rfl; have z4 := VQ.1.2 4 _ rfl
  have e9 := G5.cell (HC.out 9 (by omega))
  rw [← X2.out] at e9
  clear ZQ VQ HZR HVR HGV cv1 cv2 c8 c9 c10 c11 c12 htr g5
  rw [HMM.out]
  obtain ⟨m, MM⟩ : ∃ m, Hid (m = mayD bs) := ⟨_, Lib.hid rfl⟩
  rw [← MM.out]
  obtain ⟨f, hf⟩ : ∃ f, f = fillN (17 + nD) := ⟨_, rfl⟩
  have hf8 : f < 8 ∧ (17 + nD + f) % 8 = 0 ∧ ∀ j, j < f → (17 + nD + j) % 8 ≠ 0 := by
    rw [hf, fillN]
    refine ⟨by omega, by omega, ?_⟩
    intro j hj
    omega
  have HF := Lib.hid (show dAll bs = 17 + nD + f by rw [dAll, ← HN.out, hf])
  have HF8 := Lib.hid hf8
  have hf7 : f < 8 := hf8.1
  clear hf hf8
  go_wp2_with fail
  go_loop [11] (fun v => ∃ j : Nat, j ≤ f ∧ v = .int .i64 (17 + (nD : Int) + (j : Int))) (fun v => 17 + nD + f - (intOf v).toNat)
  case atStart => exact ⟨0, Nat.zero_le _, by simp⟩
  case round =>
    obtain ⟨j, hj, rfl⟩ := hrel
    by_cases hlt : j < f
    · have hne1 : ((17 + (nD : Int) + (j : Int)) % 8 != 0) = true := by
        have := HF8.out.2.2 j hlt
        rw [bne_iff_ne]; omega
      go_wp2_with fail
      go_round
      case rel => exact ⟨j + 1, by omega, by congr 1⟩
      case measure => simp [intOf]; omega
    · obtain rfl : j = f := by omega
      have hne1 : ((17 + (nD : Int) + (j : Int)) % 8 != 0) = false := by
        have := HF8.out.2.1
        rw [bne_eq_false_iff_eq]; omega
      cases kk with
      | false =>
        have HE := Lib.hid (show decE bs = 2 by rw [HDE.out, sameQ, ← KK.out, Bool.false_and]; rfl)
        go_wp2_with fail
        rw [show recW bs = .agg #[.int .i64 0, .int .i64 0, .bool false, .int .i64 0, .string ⟨#[]⟩] by rw [recW, if_neg (by rw [HE.out]; omega)], show decL bs = 0 by rw [decL, if_neg (by rw [HE.out]; omega)], HE.out]
        refine bodyPost_ret (v := .tuple #[.agg #[.int .i64 0, .int .i64 0, .bool false, .int .i64 0, .string ⟨#[]⟩], .int .i64 0, .int .i64 2]) (by simp [results, Try.results18, go_sem, q0, q1, q2, q3, q4]) rfl ⟨rfl, ?_⟩
        repeat (refine Grow.setCell ?_ (by simp) _)
        exact G5
      | true =>
        cases m with
        | false =>
          have HE := Lib.hid (show decE bs = 2 by rw [HDE.out, sameQ, ← KK.out, ← MM.out, Bool.false_and, Bool.and_false]; rfl)
          go_wp2_with fail
          rw [show recW bs = .agg #[.int .i64 0, .int .i64 0, .bool false, .int .i64 0, .string ⟨#[]⟩] by rw [recW, if_neg (by rw [HE.out]; omega)], show decL bs = 0 by rw [decL, if_neg (by rw [HE.out]; omega)], HE.out]
          refine bodyPost_ret (v := .tuple #[.agg #[.int .i64 0, .int .i64 0, .bool false, .int .i64 0, .string ⟨#[]⟩], .int .i64 0, .int .i64 2]) (by simp [results, Try.results18, go_sem, q0, q1, q2, q3, q4]) rfl ⟨rfl, ?_⟩
          repeat (refine Grow.setCell ?_ (by simp) _)
          exact G5
        | true =>
          by_cases h9 : 1 < x2
          · have h9' := Lib.hid (show decide (by_ bs 9 ≤ 1) = false by rw [← X2.out]; exact decide_eq_false (by omega))
            have HE := Lib.hid (show decE bs = 2 by rw [HDE.out, sameQ, h9'.out, Bool.false_and, Bool.and_false, Bool.and_false]; rfl)
            go_wp2_with fail
            rw [show recW bs = .agg #[.int .i64 0, .int .i64 0, .bool false, .int .i64 0, .string ⟨#[]⟩] by rw [recW, if_neg (by rw [HE.out]; omega)], show decL bs = 0 by rw [decL, if_neg (by rw [HE.out]; omega)], HE.out]
            refine bodyPost_ret (v := .tuple #[.agg #[.int .i64 0, .int .i64 0, .bool false, .int .i64 0, .string ⟨#[]⟩], .int .i64 0, .int .i64 2]) (by simp [results, Try.results18, go_sem, q0, q1, q2, q3, q4]) rfl ⟨rfl, ?_⟩
            repeat (refine Grow.setCell ?_ (by simp) _)
            exact G5
          · have h9a : x2 ≤ 1 := by omega
            have h9' := Lib.hid (show decide (by_ bs 9 ≤ 1) = true by rw [← X2.out]; exact decide_eq_true h9a)
            clear h9
            by_cases hal : 17 + nD + j ≤ n
            · have hal' := Lib.hid (show decide (dAll bs ≤ bs.length) = true by rw [HF.out, HL.out]; exact decide_eq_true hal)
              have HQ := Lib.hid (show sameQ bs = zerosB bs (17 + nD) (17 + nD + j) by rw [sameQ, ← KK.out, ← MM.out, h9'.out, hal'.out, HF.out, ← HN.out]; rfl)
              go_wp2_with fail
              go_loop [12] (fun v => ∃ k : Nat, 17 + nD ≤ k ∧ k ≤ 17 + nD + j ∧ v = .int .i64 (k : Int) ∧ Hid (∀ i, 17 + nD ≤ i → i < k → by_ bs i = 0)) (fun v => 17 + nD + j - (intOf v).toNat)
              case atStart => exact ⟨17 + nD, by omega, by omega, by simp, Lib.hid (fun i h1 h2 => by omega)⟩
              case round =>
                obtain ⟨k, hk1, hk2, rfl, hz⟩ := hrel
                by_cases hkl : k < 17 + nD + j
                · have ck := G5.cell (HC.out k (by omega))
                  obtain ⟨y, hy⟩ : ∃ y, y = by_ bs k := ⟨_, rfl⟩
                  rw [← hy] at ck
                  have HY := Lib.hid hy
                  clear hy
                  by_cases hu : y = 0
                  · have hne2 : (y != 0) = false := by rw [bne_eq_false_iff_eq]; exact hu
                    have HU := Lib.hid hu
                    clear hu
                    go_wp2_with fail
                    go_round
                    case rel =>
                      have hzz : Hid (∀ i, 17 + nD ≤ i → i < k + 1 → by_ bs i = 0) := Lib.hid fun i h1 h2 => by
                        by_cases hj2 : i < k
                        · exact hz.out i h1 hj2
                        · obtain rfl : i = k := by omega
                          rw [← HY.out]; exact HU.out
                      first | exact ⟨k + 1, by omega, by omega, by go_num, hzz⟩ | ((repeat apply Exists.intro); exact ⟨⟨k + 1, by omega, by omega, by go_num, hzz⟩, rfl⟩)
                    case measure => simp [intOf]; omega
                  · have hne2 : (y != 0) = true := by rw [bne_iff_ne]; exact hu
                    have hD : sameQ bs = false := by
                      rw [HQ.out]
                      cases hzb : zerosB bs (17 + nD) (17 + nD + j) with
                      | false => rfl
                      | true =>
                        have := (zeros_iff (b := bs) (lo := 17 + nD) (hi := 17 + nD + j) (by rw [HL.out]; exact hal)).1 hzb k hk1 hkl
                        exact absurd (by rw [HY.out, by_get (by rw [HL.out]; omega), this]; rfl) hu
                    have HE := Lib.hid (show decE bs = 2 by rw [HDE.out, hD]; rfl)
                    clear hD hu
                    go_wp2_with fail
                    rw [show recW bs = .agg #[.int .i64 0, .int .i64 0, .bool false, .int .i64 0, .string ⟨#[]⟩] by rw [recW, if_neg (by rw [HE.out]; omega)], show decL bs = 0 by rw [decL, if_neg (by rw [HE.out]; omega)], HE.out]
                    refine bodyPost_ret (v := .tuple #[.agg #[.int .i64 0, .int .i64 0, .bool false, .int .i64 0, .string ⟨#[]⟩], .int .i64 0, .int .i64 2]) (by simp [results, Try.results18, go_sem, q0, q1, q2, q3, q4]) rfl ⟨rfl, ?_⟩
                    repeat (refine Grow.setCell ?_ (by simp) _)
                    exact G5
                · obtain rfl : k = 17 + nD + j := by omega
                  have hD : sameQ bs = true := by
                    rw [HQ.out]
                    refine (zeros_iff (b := bs) (lo := 17 + nD) (hi := 17 + nD + j) (by rw [HL.out]; exact hal)).2 fun i h1 h2 => ?_
                    have := hz.out i h1 h2
                    rw [by_get (by rw [HL.out]; omega)] at this
                    exact UInt8.toNat_inj.1 (by simpa using this)
                  have HE := Lib.hid (show decE bs = 0 by rw [HDE.out, hD]; rfl)
                  have HV := Lib.hid (show recW bs = .agg #[.int .i64 x0, .int .i64 x1, .bool tr, .int .i64 x3, .string sv] by rw [recW, if_pos HE.out, X0.out, X1.out, TR.out, X3.out, SV.out])
                  have HLL := Lib.hid (show ((decL bs : Nat) : Int) = 17 + (nD : Int) + (j : Int) by rw [decL, if_pos HE.out, HF.out]; simp)
                  clear hD
                  go_wp2_with fail
                  rw [HV.out, HE.out, HLL.out]
                  refine bodyPost_ret (v := .tuple #[.agg #[.int .i64 x0, .int .i64 x1, .bool tr, .int .i64 x3, .string sv], .int .i64 (17 + (nD : Int) + (j : Int)), .int .i64 0]) (by simp [results, Try.results18, go_sem, q0, q1, q2, q3, q4]) rfl ⟨rfl, ?_⟩
                  repeat (refine Grow.setCell ?_ (by simp) _)
                  exact G5
            · have hal2 : n < 17 + nD + j := by omega
              have hal' := Lib.hid (show decide (dAll bs ≤ bs.length) = false by rw [HF.out, HL.out]; exact decide_eq_false hal)
              clear hal
              have HE := Lib.hid (show decE bs = 2 by rw [HDE.out, sameQ, hal'.out, Bool.and_false, Bool.and_false, Bool.and_false]; rfl)
              go_wp2_with fail
              rw [show recW bs = .agg #[.int .i64 0, .int .i64 0, .bool false, .int .i64 0, .string ⟨#[]⟩] by rw [recW, if_neg (by rw [HE.out]; omega)], show decL bs = 0 by rw [decL, if_neg (by rw [HE.out]; omega)], HE.out]
              refine bodyPost_ret (v := .tuple #[.agg #[.int .i64 0, .int .i64 0, .bool false, .int .i64 0, .string ⟨#[]⟩], .int .i64 0, .int .i64 2]) (by simp [results, Try.results18, go_sem, q0, q1, q2, q3, q4]) rfl ⟨rfl, ?_⟩
              repeat (refine Grow.setCell ?_ (by simp) _)
              exact G5

theorem ref16_decode {A : Option Addr} {n c : Nat} {bs : List UInt8} {w : World} (hs : Sl w A n bs) (hc : n ≤ c) :
    Calls Try.prog 18 #[.slice A n c] w fun e w' => e = .returned (.tuple #[recW bs, .int .i64 (decL bs : Nat), .int .i64 (decE bs)]) ∧ Grow w w' := by
  by_cases h1 : n < 13 ∨ n < 17 + dN bs
  · exact ref16_decode_short hs h1
  · have hl : 17 + dN bs ≤ n := Nat.le_of_not_lt fun h => h1 (.inr h)
    by_cases h2 : getN bs ((13 + dN bs : Nat) : Int) 4 = (crcN (bs.take (13 + dN bs)) : Nat)
    · exact ref16_decode_may hs hc hl h2
    · exact ref16_decode_sum hs hc hl h2
end Go.Proofs.Ytnbgkkjhmdfmiaa

namespace Go.Proofs.Ytnbgkkjhmdfmiaa
open Go.RowKit

theorem rdecR_yes {A : Option Addr} {n c : Nat} {bs : List UInt8} {w : World} (hs : Sl w A n bs) (hc : n ≤ c) (h : decE bs = 0) (r : R5) (hr : recOf bs = r) (L : Nat) (hL : decL bs = L) :
    Calls Try.prog 18 #[.slice A n c] w fun e w' => e = .returned (.tuple #[.agg #[.int .i64 r.call, .int .i64 r.ino, .bool r.tr, .int .i64 r.off, .string r.dat], .int .i64 (L : Nat), .int .i64 0]) ∧ Grow w w' := by
  subst hr hL
  refine (ref16_decode hs hc).mono ?_
  rintro e w' ⟨rfl, g⟩
  refine ⟨?_, g⟩
  rw [recW, if_pos h, h]
  rfl
theorem rdecR_no {A : Option Addr} {n c : Nat} {bs : List UInt8} {w : World} (hs : Sl w A n bs) (hc : n ≤ c) (y : Int) (h : decE bs = y) (h0 : y ≠ 0) :
    Calls Try.prog 18 #[.slice A n c] w fun e w' => e = .returned (.tuple #[.agg #[.int .i64 0, .int .i64 0, .bool false, .int .i64 0, .string ⟨#[]⟩], .int .i64 0, .int .i64 y]) ∧ Grow w w' := by
  subst h
  refine (ref16_decode hs hc).mono ?_
  rintro e w' ⟨rfl, g⟩
  refine ⟨?_, g⟩
  rw [recW, if_neg h0, decL, if_neg h0]
  rfl

theorem ref16_end_sign (e n : Int) (b : Bool) (h : endB e n = b) (w : World) :
    Calls Try.prog 10 #[.int .i64 e, .int .i64 n] w fun r w' => ∃ X, r = .returned (.int .i64 X) ∧ decide (X < 0) = !b ∧ w = w' := by
  subst h
  cases h : endB e n with
  | true =>
    refine (ref16_end_yes e n h w).mono ?_
    rintro r w' ⟨rfl, rfl⟩
    refine ⟨_, rfl, decide_eq_false ?_, rfl⟩
    have := endB_iff.1 h
    omega
  | false =>
    refine (ref16_end_no e n h w).mono ?_
    rintro r w' ⟨rfl, rfl⟩
    exact ⟨_, rfl, rfl, rfl⟩

set_option maxHeartbeats 1000000 in
theorem ref16_scan_loop {A : Option Addr} {k c : Nat} {bs : List UInt8} {w : World} (hs : Sl w A k bs) (hk : k = 1024) (hc : k ≤ c) (epoch : Int) (n h0 : Nat) (hn : n ≤ 1016) (hh0 : h0 ≤ n) (N : Int) (hN : getN bs 0 8 = N) (hK : getK bs 0 8 = true) (d1 : Int.tdiv N 4294967296 = epoch) (d2 : Int.tmod N 4294967296 = (n : Int)) (d3 : endB epoch (n : Int) = true) :
    Calls Try.prog 22 #[.slice A k c, .int .i64 epoch, .int .i64 (h0 : Nat)] w fun e w' => ∃ v u, e = .returned (.tuple #[v, u]) ∧ Two w' w.heap.size v ((scanW bs n h0).map (·.1)) u ((scanW bs n h0).map (·.2)) ∧ Grow w w' := by
  have HL := Lib.hid hs.1
  have k1 : k ≤ 1024 := by omega
  have k2 : 1024 ≤ k := by omega
  have k3 : ((k : Int) != 1024) = false := by rw [hk]; rfl
  clear hk
  obtain ⟨g, o, rfl, hg, -⟩ := hs.all (by omega)
  have h8 := (hs.drop (k := 8) (by omega) hc).take (k := n) (by omega)
  rw [if_neg (by omega), show (some (⟨g, o, none⟩ : Addr)).map (·.add 8) = some ⟨g, o + 8, none⟩ by simp [Addr.add_lit]] at h8
  have HN := Lib.hid hN
  have HK := Lib.hid hK
  have HE := Lib.hid d3
  have we : wrap64 epoch = epoch := IntWalk.wrap64_in _ (by have := endB_iff.1 d3; omega)
  have i1 : 8 + (n : Int) ≤ (c : Int) := by omega
  have i2 : (8 + (n : Int)).toNat = 8 + n := by omega
  have i3 : 8 + n ≤ c := by omega
  have z1 : decide (n < h0) = false := decide_eq_false (by omega)
  have z2 : decide ((h0 : Int) < 0) = false := by simp
  have z3 : decide ((n : Int) < (h0 : Int)) = false := decide_eq_false (by omega)
  clear hN hK d3
  go_enter Try.func22, Try.ntmps22
  go_wp2_with fail
  refine (rget_s (at_ := 0) (x := 8) hs (by decide) (by decide)).mono ?_
  rintro e w' ⟨rfl, rfl⟩
  rw [HN.out, HK.out]
  go_wp2_with fail
  refine (ref16_end_sign _ _ true HE.out _).mono ?_
  rintro e w' ⟨X, rfl, hX, rfl⟩
  simp only [Bool.not_true] at hX
  clear d2
  go_wp2_with fail
  clear d1 we hX
  go_loopw [2, 8, 9] (fun hd v u wr => ScanInv w wr bs n h0 hd v u) (fun hd _ _ _ => n - (intOf hd).toNat)
  case atStart => exact ⟨h0, [], [], by simp, hh0, by simp, by simp, Two.nil _ _, Grow.refl _, Lib.hid ⟨rfl, rfl⟩⟩
  case round =>
    obtain ⟨h, L, K, rfl, hh, hL, hK, HT, G, HS⟩ := hrel
    by_cases hlt : h < n
    · have hd := (h8.keep G).drop (k := h) (c := c - 8) (by omega) (by omega)
      rw [if_neg (by omega), show (some (⟨g, o + 8, none⟩ : Addr)).map (·.add h) = some ⟨g, o + (8 + h), none⟩ by simp [Addr.add_lit], midB_eq] at hd
      have j1 : (8 + (h : Int)).toNat = 8 + h := by omega
      have j2 : 8 + n - (8 + h) = n - h := by omega
      have j3 : c ≠ 8 + h := by omega
      by_cases hD : decE (midB bs n h) = 0
      · obtain ⟨r, hr⟩ : ∃ r, recOf (midB bs n h) = r := ⟨_, rfl⟩
        obtain ⟨D, hDL⟩ : ∃ D, decL (midB bs n h) = D := ⟨_, rfl⟩
        have hst := scanW_step (by rw [HL.out]; omega) hlt hD
        have hgo := scanW_go hlt hD
        rw [hDL] at hst
        rw [hr, hDL] at hgo
        have HR := Lib.hid hr
        have HDL := Lib.hid hDL
        have HGO := Lib.hid hgo
        have HD := Lib.hid hD
        have hst1 := hst.1
        have hst2 := hst.2
        clear hr hDL hgo hD hst
        go_wp2_with fail
        refine (rdecR_yes hd (by omega) HD.out r HR.out D HDL.out).mono ?_
        rintro e w1 ⟨rfl, g1⟩
        have HT1 := HT.keep g1
        have G1 := G.trans g1
        have hz1 := G1.size
        clear HT G g1 hd
        have K4 := Blk.new w1 31 [.int .i64 r.call, .int .i64 r.ino, .bool r.tr, .int .i64 r.off, .string r.dat] _ (0, 0) rfl
        have t0 := K4.2 0 _ rfl; have t1 := K4.2 1 _ rfl; have t2 := K4.2 2 _ rfl; have t3 := K4.2 3 _ rfl; have t4 := K4.2 4 _ rfl
        clear K4
        go_wp2_with ((first
          | (at_builtin; refine wpList_appR1 rfl (.tmp 68) (.tmp 70) rfl w.heap.size _ _ L K rfl r (by first | rfl | (show Value.slice (some ⟨w1.heap.size + 1, 0, none⟩) 1 1 = _; simp)) (by exact HT1.keep ((Grow.refl _).alloc _)) (by omega) (by simp; omega) ?_; intro v2 w2 q1 q2)
          | (at_builtin; refine wpList_appI1 rfl (.tmp 72) (.tmp 74) rfl w.heap.size _ _ (L ++ [r]) K rfl _ (by rfl) q1 (by omega) (by have := Below.size q2; simp at this; omega) ?_; intro u3 w3 q3 q4)))
        have X : ScanInv w w3 bs n h0 (.int .i64 ((h : Int) + (D : Int))) v2 u3 := by
          refine ⟨h + D, L ++ [r], K ++ [((h + D : Nat) : Int)], by simp, by omega, by simp; omega, by simp; omega, by simpa using q3, ((G1.alloc _).low (q2.mono (by omega))).low q4, Lib.hid ?_⟩
          rw [← HS.out.1, ← HS.out.2, HGO.out]
          simp
        go_roundw
        case rel => first | exact X | ((repeat apply Exists.intro); refine ⟨X, ?_⟩; first | rfl | simp [z1, z2])
        case measure => simp [intOf]; omega
      · obtain ⟨y, hy⟩ : ∃ y, decE (midB bs n h) = y := ⟨_, rfl⟩
        have hb := scanW_bad hD
        rw [hy] at hD
        have HY := Lib.hid hy
        have hyb : (y != 0) = true := by rw [bne_iff_ne]; exact hD
        have hHS : L = (scanW bs n h0).map (·.1) ∧ K = (scanW bs n h0).map (·.2) := by have := HS.out; rw [hb] at this; simpa using this
        have HS2 := Lib.hid hHS
        have HY0 := Lib.hid hD
        clear hy hb hHS HS hD
        go_wp2_with fail
        refine (rdecR_no hd (by omega) y HY.out HY0.out).mono ?_
        rintro e w1 ⟨rfl, g1⟩
        go_wp2_with fail
        go_ret2
        exact ⟨_, _, rfl, by rw [← HS2.out.1, ← HS2.out.2]; exact HT.keep (g1.alloc _), (G.trans g1).alloc _⟩
    · have hb := scanW_end (b := bs) hlt
      have hHS : L = (scanW bs n h0).map (·.1) ∧ K = (scanW bs n h0).map (·.2) := by have := HS.out; rw [hb] at this; simpa using this
      have HS2 := Lib.hid hHS
      clear hb hHS HS
      go_wp2_with fail
      go_ret2
      exact ⟨_, _, rfl, by rw [← HS2.out.1, ← HS2.out.2]; exact HT, G⟩
theorem ref16_scan_size {A : Option Addr} {k c : Nat} {w : World} (hk : k ≠ 1024) (epoch head : Int) :
    Calls Try.prog 22 #[.slice A k c, .int .i64 epoch, .int .i64 head] w fun e w' => e = .returned (.tuple #[.slice none 0 0, .slice none 0 0]) ∧ w = w' := by
  have k3 : ((k : Int) != 1024) = true := by rw [bne_iff_ne]; omega
  clear hk
  go_enter Try.func22, Try.ntmps22
  go_wp2_with fail
  go_ret2
  exact ⟨rfl, rfl⟩

theorem ref16_scan_neg {A : Option Addr} {k c : Nat} {w : World} (hk : k = 1024) (epoch head : Int) (hh : head < 0) :
    Calls Try.prog 22 #[.slice A k c, .int .i64 epoch, .int .i64 head] w fun e w' => e = .returned (.tuple #[.slice none 0 0, .slice none 0 0]) ∧ w = w' := by
  have k3 : ((k : Int) != 1024) = false := by rw [hk]; rfl
  clear hk
  go_enter Try.func22, Try.ntmps22
  go_wp2_with fail
  go_ret2
  exact ⟨rfl, rfl⟩

theorem ref16_scan_noget {A : Option Addr} {k c : Nat} {bs : List UInt8} {w : World} (hs : Sl w A k bs) (hk : k = 1024) (epoch head : Int) (hh : 0 ≤ head) (hK : getK bs 0 8 = false) :
    Calls Try.prog 22 #[.slice A k c, .int .i64 epoch, .int .i64 head] w fun e w' => e = .returned (.tuple #[.slice none 0 0, .slice none 0 0]) ∧ w = w' := by
  have k3 : ((k : Int) != 1024) = false := by rw [hk]; rfl
  have HK := Lib.hid hK
  clear hk hK
  go_enter Try.func22, Try.ntmps22
  go_wp2_with fail
  refine (rget_s (at_ := 0) (x := 8) hs (by decide) (by decide)).mono ?_
  rintro e w' ⟨rfl, rfl⟩
  rw [HK.out]
  go_wp2_with fail
  go_ret2
  exact ⟨rfl, rfl⟩

theorem ref16_scan_noend {A : Option Addr} {k c : Nat} {bs : List UInt8} {w : World} (hs : Sl w A k bs) (hk : k = 1024) (epoch head : Int) (hh : 0 ≤ head) (N p q : Int) (hN : getN bs 0 8 = N) (hK : getK bs 0 8 = true) (wp : wrap64 p = p) (d1 : Int.tdiv N 4294967296 = p) (d2 : Int.tmod N 4294967296 = q) (hE : endB p q = false) :
    Calls Try.prog 22 #[.slice A k c, .int .i64 epoch, .int .i64 head] w fun e w' => e = .returned (.tuple #[.slice none 0 0, .slice none 0 0]) ∧ w = w' := by
  have k3 : ((k : Int) != 1024) = false := by rw [hk]; rfl
  have HK := Lib.hid hK
  have HN := Lib.hid hN
  have HE := Lib.hid hE
  clear hk hK hN hE
  go_enter Try.func22, Try.ntmps22
  go_wp2_with fail
  refine (rget_s (at_ := 0) (x := 8) hs (by decide) (by decide)).mono ?_
  rintro e w' ⟨rfl, rfl⟩
  rw [HN.out, HK.out]
  go_wp2_with fail
  refine (ref16_end_sign _ _ false HE.out _).mono ?_
  rintro e w' ⟨X, rfl, hX, rfl⟩
  simp only [Bool.not_false] at hX
  clear d2
  go_wp2_with fail
  go_ret2
  exact ⟨rfl, rfl⟩

theorem ref16_scan_other {A : Option Addr} {k c : Nat} {bs : List UInt8} {w : World} (hs : Sl w A k bs) (hk : k = 1024) (epoch head : Int) (hh : 0 ≤ head) (N p q : Int) (hN : getN bs 0 8 = N) (hK : getK bs 0 8 = true) (wp : wrap64 p = p) (d1 : Int.tdiv N 4294967296 = p) (d2 : Int.tmod N 4294967296 = q) (hE : endB p q = true) (hp : p ≠ epoch) :
    Calls Try.prog 22 #[.slice A k c, .int .i64 epoch, .int .i64 head] w fun e w' => e = .returned (.tuple #[.slice none 0 0, .slice none 0 0]) ∧ w = w' := by
  have k3 : ((k : Int) != 1024) = false := by rw [hk]; rfl
  have hp' : (p != epoch) = true := by rw [bne_iff_ne]; exact hp
  have HK := Lib.hid hK
  have HN := Lib.hid hN
  have HE := Lib.hid hE
  clear hk hK hN hE hp
  go_enter Try.func22, Try.ntmps22
  go_wp2_with fail
  refine (rget_s (at_ := 0) (x := 8) hs (by decide) (by decide)).mono ?_
  rintro e w' ⟨rfl, rfl⟩
  rw [HN.out, HK.out]
  go_wp2_with fail
  refine (ref16_end_sign _ _ true HE.out _).mono ?_
  rintro e w' ⟨X, rfl, hX, rfl⟩
  simp only [Bool.not_true] at hX
  clear d2
  go_wp2_with fail
  go_ret2
  exact ⟨rfl, rfl⟩

set_option maxHeartbeats 1000000 in
theorem ref16_scan_past {A : Option Addr} {k c : Nat} {bs : List UInt8} {w : World} (hs : Sl w A k bs) (hk : k = 1024) (epoch head : Int) (hh : 0 ≤ head) (N q : Int) (hN : getN bs 0 8 = N) (hK : getK bs 0 8 = true) (wp : wrap64 epoch = epoch) (d1 : Int.tdiv N 4294967296 = epoch) (d2 : Int.tmod N 4294967296 = q) (hE : endB epoch q = true) (hq : q ≤ head) :
    Calls Try.prog 22 #[.slice A k c, .int .i64 epoch, .int .i64 head] w fun e w' => e = .returned (.tuple #[.slice none 0 0, .slice none 0 0]) ∧ w = w' := by
  have k3 : ((k : Int) != 1024) = false := by rw [hk]; rfl
  have HK := Lib.hid hK
  have HN := Lib.hid hN
  have HE := Lib.hid hE
  have z2 : decide (head < 0) = false := decide_eq_false (by omega)
  clear hk hK hN hE
  go_enter Try.func22, Try.ntmps22
  go_wp2_with fail
  refine (rget_s (at_ := 0) (x := 8) hs (by decide) (by decide)).mono ?_
  rintro e w' ⟨rfl, rfl⟩
  rw [HN.out, HK.out]
  go_wp2_with fail
  refine (ref16_end_sign _ _ true HE.out _).mono ?_
  rintro e w' ⟨X, rfl, hX, rfl⟩
  simp only [Bool.not_true] at hX
  clear d2
  go_wp2_with fail
  clear d1 wp hX
  go_loopw [2, 8, 9] (fun hd v u wr => hd = .int .i64 head ∧ v = .slice none 0 0 ∧ u = .slice none 0 0 ∧ w = wr) (fun _ _ _ _ => 0)
  case atStart => exact ⟨rfl, rfl, rfl, rfl⟩
  case round =>
    obtain ⟨rfl, rfl, rfl, rfl⟩ := hrel
    go_wp2_with fail
    go_ret2
    exact ⟨rfl, rfl⟩

theorem ref16_scan {A : Option Addr} {k c : Nat} {bs : List UInt8} {w : World} (hs : Sl w A k bs) (hk : k = 1024) (hc : k ≤ c) (epoch head : Int) :
    Calls Try.prog 22 #[.slice A k c, .int .i64 epoch, .int .i64 head] w fun e w' => ∃ v u, e = .returned (.tuple #[v, u]) ∧ Two w' w.heap.size v ((scanP bs epoch head).map (·.1)) u ((scanP bs epoch head).map (·.2)) ∧ Grow w w' := by
  have nil : scanP bs epoch head = [] → (∀ {e : Ending} {w' : World}, e = .returned (.tuple #[.slice none 0 0, .slice none 0 0]) ∧ w = w' → ∃ v u, e = .returned (.tuple #[v, u]) ∧ Two w' w.heap.size v ((scanP bs epoch head).map (·.1)) u ((scanP bs epoch head).map (·.2)) ∧ Grow w w') := by
    rintro h e w' ⟨rfl, rfl⟩
    rw [h]
    exact ⟨_, _, rfl, Two.nil _ _, Grow.refl _⟩
  by_cases h0 : head < 0
  · exact (ref16_scan_neg hk epoch head h0).mono fun e w' h => nil (by unfold scanP; rw [if_neg (by omega)]) h
  have hh : 0 ≤ head := by omega
  cases hK : getK bs 0 8 with
  | false =>
    refine (ref16_scan_noget hs hk epoch head hh hK).mono fun e w' h => nil ?_ h
    have hN : getN bs 0 8 = 0 := get_no hK
    unfold scanP
    rw [hN]
    split
    · exact scanW_end (by simp)
    · rfl
  | true =>
    obtain ⟨N, hN⟩ : ∃ N, getN bs 0 8 = N := ⟨_, rfl⟩
    have hr := get_any bs 0 8
    rw [hN] at hr
    have d1 : Int.tdiv N 4294967296 = N / 4294967296 := Int.tdiv_eq_ediv_of_nonneg hr.1
    have d2 : Int.tmod N 4294967296 = N % 4294967296 := Int.tmod_eq_emod_of_nonneg hr.1
    have wp : wrap64 (N / 4294967296) = N / 4294967296 := IntWalk.wrap64_in _ (by omega)
    cases hE : endB (N / 4294967296) (N % 4294967296) with
    | false =>
      refine (ref16_scan_noend hs hk epoch head hh N _ _ hN hK wp d1 d2 hE).mono fun e w' h => nil ?_ h
      unfold scanP
      rw [hN, if_neg (by rw [hE]; simp)]
    | true =>
      by_cases hp : N / 4294967296 = epoch
      · rw [hp] at d1 wp hE
        by_cases hq : N % 4294967296 ≤ head
        · refine (ref16_scan_past hs hk epoch head hh N _ hN hK wp d1 d2 hE hq).mono fun e w' h => nil ?_ h
          unfold scanP
          rw [hN]
          split
          · exact scanW_end (by omega)
          · rfl
        · obtain ⟨h1, rfl⟩ := Int.eq_ofNat_of_zero_le hh
          obtain ⟨n, hn⟩ := Int.eq_ofNat_of_zero_le (show 0 ≤ N % 4294967296 by omega)
          have hb := endB_iff.1 hE
          rw [hn] at d2 hE hq hb
          have := ref16_scan_loop hs hk hc epoch n h1 (by omega) (by omega) N hN hK d1 d2 hE
          have h1 : scanP bs epoch (h1 : Nat) = scanW bs n h1 := by
            unfold scanP
            rw [hN, hn, if_pos ⟨by rw [hp]; exact hE, hp, hh⟩]
            rfl
          rw [h1]
          exact this
      · refine (ref16_scan_other hs hk epoch head hh N _ _ hN hK wp d1 d2 hE hp).mono fun e w' h => nil ?_ h
        unfold scanP
        rw [hN, if_neg (fun q => hp q.2.1)]
end Go.Proofs.Ytnbgkkjhmdfmiaa
