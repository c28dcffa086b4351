/- clog.Scan. -/
import Derived.Test.YtnbgkkjhmdfmiaaRecs
import Derived.Test.YtnbgkkjhmdfmiaaDec
import Derived.Test.YtnbgkkjhmdfmiaaEnd
namespace Go.Proofs.Ytnbgkkjhmdfmiaa
open Go.RowKit

theorem decR_yes {A : Option Addr} {n c : Nat} {bs : List UInt8} {w : World} (hs : Sl w A n bs) (hc : n ≤ c) (h : decE bs = 0) (r : R5) (hr : recOf bs = r) (L : Nat) (hL : decL bs = L) :
    Calls Try.prog 17 #[.slice A n c] w fun e w' => e = .returned (.tuple #[.agg #[.int .i64 r.call, .int .i64 r.ino, .bool r.tr, .int .i64 r.off, .string r.dat], .int .i64 (L : Nat), .int .i64 0]) ∧ Grow w w' := by
  subst hr hL
  refine (clog_decode hs hc).mono ?_
  rintro e w' ⟨rfl, g⟩
  refine ⟨?_, g⟩
  rw [recW, if_pos h, h]
  rfl
theorem decR_no {A : Option Addr} {n c : Nat} {bs : List UInt8} {w : World} (hs : Sl w A n bs) (hc : n ≤ c) (y : Int) (h : decE bs = y) (h0 : y ≠ 0) :
    Calls Try.prog 17 #[.slice A n c] w fun e w' => e = .returned (.tuple #[.agg #[.int .i64 0, .int .i64 0, .bool false, .int .i64 0, .string ⟨#[]⟩], .int .i64 0, .int .i64 y]) ∧ Grow w w' := by
  subst h
  refine (clog_decode hs hc).mono ?_
  rintro e w' ⟨rfl, g⟩
  refine ⟨?_, g⟩
  rw [recW, if_neg h0, decL, if_neg h0]
  rfl

theorem midB_eq (bs : List UInt8) (n h : Nat) : ((bs.drop 8).take n).drop h = midB bs n h := by
  rw [midB, List.drop_take, List.drop_drop]

/-- The records of a log and their ends. -/
def scanP (b : List UInt8) (epoch head : Int) : List (R5 × Int) :=
  if endB (getN b 0 8 / 4294967296) (getN b 0 8 % 4294967296) = true ∧ getN b 0 8 / 4294967296 = epoch ∧ 0 ≤ head then scanW b (getN b 0 8 % 4294967296).toNat head.toNat else []

/-- What holds at each round of the scan. -/
def ScanInv (w wr : World) (bs : List UInt8) (n h0 : Nat) (hd v u : Value) : Prop := ∃ (h : Nat) (L : List R5) (K : List Int), hd = .int .i64 (h : Int) ∧ h ≤ n ∧ L.length ≤ h ∧ K.length ≤ h ∧ Two wr w.heap.size v L u K ∧ Grow w wr ∧ Hid (L ++ (scanW bs n h).map (·.1) = (scanW bs n h0).map (·.1) ∧ K ++ (scanW bs n h).map (·.2) = (scanW bs n h0).map (·.2))

set_option maxHeartbeats 1000000 in
theorem clog_scan_loop {A : Option Addr} {k c : Nat} {bs : List UInt8} {w : World} (hs : Sl w A k bs) (hk : k = 1024) (hc : k ≤ c) (epoch : Int) (n h0 : Nat) (hn : n ≤ 1016) (hh0 : h0 ≤ n) (N : Int) (hN : getN bs 0 8 = N) (hE : endB (N / 4294967296) (N % 4294967296) = true) (he : N / 4294967296 = epoch) (hm : N % 4294967296 = (n : Int)) :
    Calls Try.prog 21 #[.slice A k c, .int .i64 epoch, .int .i64 (h0 : Nat)] w fun e w' => ∃ v u, e = .returned (.tuple #[v, u]) ∧ Two w' w.heap.size v ((scanW bs n h0).map (·.1)) u ((scanW bs n h0).map (·.2)) ∧ Grow w w' := by
  have HL := Lib.hid hs.1
  have k1 : k ≤ 1024 := by omega
  have k2 : 1024 ≤ k := by omega
  have k3 : ((k : Int) != 1024) = false := by rw [hk]; rfl
  clear hk
  obtain ⟨g, o, rfl, hg, -⟩ := hs.all (by omega)
  have h8 := (hs.drop (k := 8) (by omega) hc).take (k := n) (by omega)
  rw [if_neg (by omega), show (some (⟨g, o, none⟩ : Addr)).map (·.add 8) = some ⟨g, o + 8, none⟩ by simp [Addr.add_lit]] at h8
  have HE := Lib.hid hE
  have HN := Lib.hid hN
  have i1 : 8 + (n : Int) ≤ (c : Int) := by omega
  have i2 : (8 + (n : Int)).toNat = 8 + n := by omega
  have i3 : 8 + n ≤ c := by omega
  have z1 : decide (n < h0) = false := decide_eq_false (by omega)
  have z2 : decide ((h0 : Int) < 0) = false := by simp
  have z3 : decide ((n : Int) < (h0 : Int)) = false := decide_eq_false (by omega)
  clear hE hN
  go_enter Try.func21, Try.ntmps21
  go_wp2_with fail
  go_step3
  go_wp2_with fail
  refine (get_s (at_ := 0) (x := 8) hs (by decide) (by decide)).mono ?_
  rintro e w' ⟨rfl, rfl⟩
  rw [HN.out]
  go_wp2_with fail
  refine (clog_split_yes _ HE.out _).mono ?_
  rintro e w' ⟨rfl, rfl⟩
  rw [he, hm]
  clear he hm HE HN
  go_wp2_with fail
  go_step3
  go_wp2_with fail
  go_loopw [2, 13, 14] (fun hd v u wr => ScanInv w wr bs n h0 hd v u) (fun hd _ _ _ => n - (intOf hd).toNat)
  case atStart => exact ⟨h0, [], [], by simp, hh0, by simp, by simp, Two.nil _ _, Grow.refl _, Lib.hid ⟨rfl, rfl⟩⟩
  case round =>
    obtain ⟨h, L, K, rfl, hh, hL, hK, HT, G, HS⟩ := hrel
    by_cases hlt : h < n
    · have hd := (h8.keep G).drop (k := h) (c := c - 8) (by omega) (by omega)
      rw [if_neg (by omega), show (some (⟨g, o + 8, none⟩ : Addr)).map (·.add h) = some ⟨g, o + 8 + h, none⟩ by simp [Addr.add_lit], midB_eq] at hd
      by_cases hD : decE (midB bs n h) = 0
      · obtain ⟨r, hr⟩ : ∃ r, recOf (midB bs n h) = r := ⟨_, rfl⟩
        obtain ⟨D, hDL⟩ : ∃ D, decL (midB bs n h) = D := ⟨_, rfl⟩
        have hst := scanW_step (by rw [HL.out]; omega) hlt hD
        have hgo := scanW_go hlt hD
        rw [hDL] at hst
        rw [hr, hDL] at hgo
        have HR := Lib.hid hr
        have HDL := Lib.hid hDL
        have HGO := Lib.hid hgo
        have HD := Lib.hid hD
        have hst1 := hst.1
        have hst2 := hst.2
        clear hr hDL hgo hD hst
        go_wp2_with fail
        refine (decR_yes hd (by omega) HD.out r HR.out D HDL.out).mono ?_
        rintro e w1 ⟨rfl, g1⟩
        have HT1 := HT.keep g1
        have G1 := G.trans g1
        have hz1 := G1.size
        clear HT G g1 hd
        have K4 := Blk.new w1 31 [.int .i64 r.call, .int .i64 r.ino, .bool r.tr, .int .i64 r.off, .string r.dat] _ (0, 0) rfl
        have t0 := K4.2 0 _ rfl; have t1 := K4.2 1 _ rfl; have t2 := K4.2 2 _ rfl; have t3 := K4.2 3 _ rfl; have t4 := K4.2 4 _ rfl
        clear K4
        go_wp2_with ((first
          | (at_builtin; refine wpList_appR1 rfl (.tmp 68) (.tmp 70) rfl w.heap.size _ _ L K rfl r (by first | rfl | (show Value.slice (some ⟨w1.heap.size + 1, 0, none⟩) 1 1 = _; simp)) (by exact HT1.keep ((Grow.refl _).alloc _)) (by omega) (by simp; omega) ?_; intro v2 w2 q1 q2)
          | (at_builtin; refine wpList_appI1 rfl (.tmp 72) (.tmp 74) rfl w.heap.size _ _ (L ++ [r]) K rfl _ (by rfl) q1 (by omega) (by have := Below.size q2; simp at this; omega) ?_; intro u3 w3 q3 q4)))
        have X : ScanInv w w3 bs n h0 (.int .i64 ((h : Int) + (D : Int))) v2 u3 := by
          refine ⟨h + D, L ++ [r], K ++ [((h + D : Nat) : Int)], by simp, by omega, by simp; omega, by simp; omega, by simpa using q3, ((G1.alloc _).low (q2.mono (by omega))).low q4, Lib.hid ?_⟩
          rw [← HS.out.1, ← HS.out.2, HGO.out]
          simp
        go_roundw
        case rel => first | exact X | ((repeat apply Exists.intro); refine ⟨X, ?_⟩; first | rfl | simp [z1, z2])
        case measure => simp [intOf]; omega
      · obtain ⟨y, hy⟩ : ∃ y, decE (midB bs n h) = y := ⟨_, rfl⟩
        have hb := scanW_bad hD
        rw [hy] at hD
        have HY := Lib.hid hy
        have hyb : (y != 0) = true := by rw [bne_iff_ne]; exact hD
        have hHS : L = (scanW bs n h0).map (·.1) ∧ K = (scanW bs n h0).map (·.2) := by have := HS.out; rw [hb] at this; simpa using this
        have HS2 := Lib.hid hHS
        have HY0 := Lib.hid hD
        clear hy hb hHS HS hD
        go_wp2_with fail
        refine (decR_no hd (by omega) y HY.out HY0.out).mono ?_
        rintro e w1 ⟨rfl, g1⟩
        go_wp2_with fail
        rw [Exit.noGoto_ret]
        go_ret2
        exact ⟨_, _, rfl, by rw [← HS2.out.1, ← HS2.out.2]; exact HT.keep (g1.alloc _), (G.trans g1).alloc _⟩
    · have hb := scanW_end (b := bs) hlt
      have hHS : L = (scanW bs n h0).map (·.1) ∧ K = (scanW bs n h0).map (·.2) := by have := HS.out; rw [hb] at this; simpa using this
      have HS2 := Lib.hid hHS
      clear hb hHS HS
      go_wp2_with fail
      rw [Exit.noGoto_ret]
      go_ret2
      exact ⟨_, _, rfl, by rw [← HS2.out.1, ← HS2.out.2]; exact HT, G⟩

theorem clog_scan_size {A : Option Addr} {k c : Nat} {w : World} (hk : k ≠ 1024) (epoch head : Int) :
    Calls Try.prog 21 #[.slice A k c, .int .i64 epoch, .int .i64 head] w fun e w' => e = .returned (.tuple #[.slice none 0 0, .slice none 0 0]) ∧ w = w' := by
  have k3 : ((k : Int) != 1024) = true := by rw [bne_iff_ne]; omega
  clear hk
  go_enter Try.func21, Try.ntmps21
  go_wp2_with fail
  go_step3
  go_wp2_with fail
  rw [Exit.noGoto_ret]
  go_ret2
  exact ⟨rfl, rfl⟩

theorem clog_scan_noend {A : Option Addr} {k c : Nat} {bs : List UInt8} {w : World} (hs : Sl w A k bs) (hk : k = 1024) (epoch head : Int) (N : Int) (hN : getN bs 0 8 = N) (hE : endB (N / 4294967296) (N % 4294967296) = false) :
    Calls Try.prog 21 #[.slice A k c, .int .i64 epoch, .int .i64 head] w fun e w' => e = .returned (.tuple #[.slice none 0 0, .slice none 0 0]) ∧ w = w' := by
  have k3 : ((k : Int) != 1024) = false := by rw [hk]; rfl
  have HE := Lib.hid hE
  have HN := Lib.hid hN
  clear hk hE hN
  go_enter Try.func21, Try.ntmps21
  go_wp2_with fail
  go_step3
  go_wp2_with fail
  refine (get_s (at_ := 0) (x := 8) hs (by decide) (by decide)).mono ?_
  rintro e w' ⟨rfl, rfl⟩
  rw [HN.out]
  go_wp2_with fail
  refine (clog_split_no _ HE.out _).mono ?_
  rintro e w' ⟨rfl, rfl⟩
  go_wp2_with fail
  rw [Exit.noGoto_ret]
  go_ret2
  exact ⟨rfl, rfl⟩

theorem clog_scan_not {A : Option Addr} {k c : Nat} {bs : List UInt8} {w : World} (hs : Sl w A k bs) (hk : k = 1024) (epoch head : Int) (N p n : Int) (hN : getN bs 0 8 = N) (hE : endB (N / 4294967296) (N % 4294967296) = true) (hp : N / 4294967296 = p) (hm : N % 4294967296 = n) (hb : p ≠ epoch ∨ head < 0 ∨ n < head) :
    Calls Try.prog 21 #[.slice A k c, .int .i64 epoch, .int .i64 head] w fun e w' => e = .returned (.tuple #[.slice none 0 0, .slice none 0 0]) ∧ w = w' := by
  have k3 : ((k : Int) != 1024) = false := by rw [hk]; rfl
  have HE := Lib.hid hE
  have HN := Lib.hid hN
  have HP := Lib.hid hp
  have HM := Lib.hid hm
  have HB := Lib.hid hb
  clear hk hE hN hp hm hb
  by_cases b1 : p = epoch
  · have b1' : (p != epoch) = false := by rw [bne_eq_false_iff_eq]; exact b1
    have HB1 := Lib.hid b1
    clear b1
    by_cases b2 : head < 0
    · have HB2 := Lib.hid b2
      have b2' : decide (head < 0) = true := decide_eq_true b2
      clear b2
      go_enter Try.func21, Try.ntmps21
      go_wp2_with fail
      go_step3
      go_wp2_with fail
      refine (get_s (at_ := 0) (x := 8) hs (by decide) (by decide)).mono ?_
      rintro e w' ⟨rfl, rfl⟩
      rw [HN.out]
      go_wp2_with fail
      refine (clog_split_yes _ HE.out _).mono ?_
      rintro e w' ⟨rfl, rfl⟩
      rw [HP.out, HM.out]
      go_wp2_with fail
      rw [Exit.noGoto_ret]
      go_ret2
      exact ⟨rfl, rfl⟩
    · have b3 : n < head := HB.out.elim (fun h => absurd HB1.out h) (fun h => h.elim (fun h => absurd h b2) id)
      have b2' : decide (head < 0) = false := decide_eq_false b2
      have b3' : decide (n < head) = true := decide_eq_true b3
      clear b2 b3
      go_enter Try.func21, Try.ntmps21
      go_wp2_with fail
      go_step3
      go_wp2_with fail
      refine (get_s (at_ := 0) (x := 8) hs (by decide) (by decide)).mono ?_
      rintro e w' ⟨rfl, rfl⟩
      rw [HN.out]
      go_wp2_with fail
      refine (clog_split_yes _ HE.out _).mono ?_
      rintro e w' ⟨rfl, rfl⟩
      rw [HP.out, HM.out]
      go_wp2_with fail
      rw [Exit.noGoto_ret]
      go_ret2
      exact ⟨rfl, rfl⟩
  · have b1' : (p != epoch) = true := by rw [bne_iff_ne]; exact b1
    clear b1
    go_enter Try.func21, Try.ntmps21
    go_wp2_with fail
    go_step3
    go_wp2_with fail
    refine (get_s (at_ := 0) (x := 8) hs (by decide) (by decide)).mono ?_
    rintro e w' ⟨rfl, rfl⟩
    rw [HN.out]
    go_wp2_with fail
    refine (clog_split_yes _ HE.out _).mono ?_
    rintro e w' ⟨rfl, rfl⟩
    rw [HP.out, HM.out]
    go_wp2_with fail
    rw [Exit.noGoto_ret]
    go_ret2
    exact ⟨rfl, rfl⟩

theorem clog_scan {A : Option Addr} {k c : Nat} {bs : List UInt8} {w : World} (hs : Sl w A k bs) (hk : k = 1024) (hc : k ≤ c) (epoch head : Int) :
    Calls Try.prog 21 #[.slice A k c, .int .i64 epoch, .int .i64 head] w fun e w' => ∃ v u, e = .returned (.tuple #[v, u]) ∧ Two w' w.heap.size v ((scanP bs epoch head).map (·.1)) u ((scanP bs epoch head).map (·.2)) ∧ Grow w w' := by
  cases hE : endB (getN bs 0 8 / 4294967296) (getN bs 0 8 % 4294967296) with
  | true =>
    obtain ⟨-, -, e3, e4, -⟩ := endB_iff.1 hE
    by_cases hb : getN bs 0 8 / 4294967296 ≠ epoch ∨ head < 0 ∨ getN bs 0 8 % 4294967296 < head
    · have h0 : scanP bs epoch head = [] := by
        unfold scanP
        split
        · rename_i q
          refine scanW_end ?_
          rcases hb with h | h | h
          · exact absurd q.2.1 h
          · omega
          · omega
        · rfl
      refine (clog_scan_not hs hk epoch head _ _ _ rfl hE rfl rfl hb).mono ?_
      rintro e w' ⟨rfl, rfl⟩
      rw [h0]
      exact ⟨_, _, rfl, Two.nil _ _, Grow.refl _⟩
    · obtain ⟨q1, q2, q3⟩ : getN bs 0 8 / 4294967296 = epoch ∧ 0 ≤ head ∧ head ≤ getN bs 0 8 % 4294967296 := by
        refine ⟨Classical.byContradiction fun h => hb (.inl h), by omega, by omega⟩
      obtain ⟨h0, rfl⟩ := Int.eq_ofNat_of_zero_le q2
      have e5 : getN bs 0 8 % 4294967296 = (((getN bs 0 8 % 4294967296).toNat : Nat) : Int) := by omega
      have := clog_scan_loop hs hk hc epoch (getN bs 0 8 % 4294967296).toNat h0 (by omega) (by omega) _ rfl hE q1 e5
      have h1 : scanP bs epoch (h0 : Nat) = scanW bs (getN bs 0 8 % 4294967296).toNat h0 := by
        unfold scanP
        rw [if_pos ⟨hE, q1, q2⟩]
        rfl
      rw [h1]
      exact this
  | false =>
    refine (clog_scan_noend hs hk epoch head _ rfl hE).mono ?_
    rintro e w' ⟨rfl, rfl⟩
    have h0 : scanP bs epoch head = [] := by
      unfold scanP
      rw [if_neg (by rw [hE]; simp)]
    rw [h0]
    exact ⟨_, _, rfl, Two.nil _ _, Grow.refl _⟩
end Go.Proofs.Ytnbgkkjhmdfmiaa
