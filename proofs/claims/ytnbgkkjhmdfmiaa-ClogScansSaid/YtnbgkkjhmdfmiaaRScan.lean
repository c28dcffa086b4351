/- commonsref16.Scan. -/
import Derived.Test.YtnbgkkjhmdfmiaaScan
import Derived.Test.YtnbgkkjhmdfmiaaRDec
namespace Go.Proofs.Ytnbgkkjhmdfmiaa
open Go.RowKit

theorem rdecR_yes {A : Option Addr} {n c : Nat} {bs : List UInt8} {w : World} (hs : Sl w A n bs) (hc : n ≤ c) (h : decE bs = 0) (r : R5) (hr : recOf bs = r) (L : Nat) (hL : decL bs = L) :
    Calls Try.prog 18 #[.slice A n c] w fun e w' => e = .returned (.tuple #[.agg #[.int .i64 r.call, .int .i64 r.ino, .bool r.tr, .int .i64 r.off, .string r.dat], .int .i64 (L : Nat), .int .i64 0]) ∧ Grow w w' := by
  subst hr hL
  refine (ref16_decode hs hc).mono ?_
  rintro e w' ⟨rfl, g⟩
  refine ⟨?_, g⟩
  rw [recW, if_pos h, h]
  rfl
theorem rdecR_no {A : Option Addr} {n c : Nat} {bs : List UInt8} {w : World} (hs : Sl w A n bs) (hc : n ≤ c) (y : Int) (h : decE bs = y) (h0 : y ≠ 0) :
    Calls Try.prog 18 #[.slice A n c] w fun e w' => e = .returned (.tuple #[.agg #[.int .i64 0, .int .i64 0, .bool false, .int .i64 0, .string ⟨#[]⟩], .int .i64 0, .int .i64 y]) ∧ Grow w w' := by
  subst h
  refine (ref16_decode hs hc).mono ?_
  rintro e w' ⟨rfl, g⟩
  refine ⟨?_, g⟩
  rw [recW, if_neg h0, decL, if_neg h0]
  rfl

theorem ref16_end_sign (e n : Int) (b : Bool) (h : endB e n = b) (w : World) :
    Calls Try.prog 10 #[.int .i64 e, .int .i64 n] w fun r w' => ∃ X, r = .returned (.int .i64 X) ∧ decide (X < 0) = !b ∧ w = w' := by
  subst h
  cases h : endB e n with
  | true =>
    refine (ref16_end_yes e n h w).mono ?_
    rintro r w' ⟨rfl, rfl⟩
    refine ⟨_, rfl, decide_eq_false ?_, rfl⟩
    have := endB_iff.1 h
    omega
  | false =>
    refine (ref16_end_no e n h w).mono ?_
    rintro r w' ⟨rfl, rfl⟩
    exact ⟨_, rfl, rfl, rfl⟩

set_option maxHeartbeats 1000000 in
theorem ref16_scan_loop {A : Option Addr} {k c : Nat} {bs : List UInt8} {w : World} (hs : Sl w A k bs) (hk : k = 1024) (hc : k ≤ c) (epoch : Int) (n h0 : Nat) (hn : n ≤ 1016) (hh0 : h0 ≤ n) (N : Int) (hN : getN bs 0 8 = N) (hK : getK bs 0 8 = true) (d1 : Int.tdiv N 4294967296 = epoch) (d2 : Int.tmod N 4294967296 = (n : Int)) (d3 : endB epoch (n : Int) = true) :
    Calls Try.prog 22 #[.slice A k c, .int .i64 epoch, .int .i64 (h0 : Nat)] w fun e w' => ∃ v u, e = .returned (.tuple #[v, u]) ∧ Two w' w.heap.size v ((scanW bs n h0).map (·.1)) u ((scanW bs n h0).map (·.2)) ∧ Grow w w' := by
  have HL := Lib.hid hs.1
  have k1 : k ≤ 1024 := by omega
  have k2 : 1024 ≤ k := by omega
  have k3 : ((k : Int) != 1024) = false := by rw [hk]; rfl
  clear hk
  obtain ⟨g, o, rfl, hg, -⟩ := hs.all (by omega)
  have h8 := (hs.drop (k := 8) (by omega) hc).take (k := n) (by omega)
  rw [if_neg (by omega), show (some (⟨g, o, none⟩ : Addr)).map (·.add 8) = some ⟨g, o + 8, none⟩ by simp [Addr.add_lit]] at h8
  have HN := Lib.hid hN
  have HK := Lib.hid hK
  have HE := Lib.hid d3
  have we : wrap64 epoch = epoch := IntWalk.wrap64_in _ (by have := endB_iff.1 d3; omega)
  have i1 : 8 + (n : Int) ≤ (c : Int) := by omega
  have i2 : (8 + (n : Int)).toNat = 8 + n := by omega
  have i3 : 8 + n ≤ c := by omega
  have z1 : decide (n < h0) = false := decide_eq_false (by omega)
  have z2 : decide ((h0 : Int) < 0) = false := by simp
  have z3 : decide ((n : Int) < (h0 : Int)) = false := decide_eq_false (by omega)
  clear hN hK d3
  go_enter Try.func22, Try.ntmps22
  go_wp2_with fail
  refine (rget_s (at_ := 0) (x := 8) hs (by decide) (by decide)).mono ?_
  rintro e w' ⟨rfl, rfl⟩
  rw [HN.out, HK.out]
  go_wp2_with fail
  refine (ref16_end_sign _ _ true HE.out _).mono ?_
  rintro e w' ⟨X, rfl, hX, rfl⟩
  simp only [Bool.not_true] at hX
  clear d2
  go_wp2_with fail
  clear d1 we hX
  go_loopw [2, 8, 9] (fun hd v u wr => ScanInv w wr bs n h0 hd v u) (fun hd _ _ _ => n - (intOf hd).toNat)
  case atStart => exact ⟨h0, [], [], by simp, hh0, by simp, by simp, Two.nil _ _, Grow.refl _, Lib.hid ⟨rfl, rfl⟩⟩
  case round =>
    obtain ⟨h, L, K, rfl, hh, hL, hK, HT, G, HS⟩ := hrel
    by_cases hlt : h < n
    · have hd := (h8.keep G).drop (k := h) (c := c - 8) (by omega) (by omega)
      rw [if_neg (by omega), show (some (⟨g, o + 8, none⟩ : Addr)).map (·.add h) = some ⟨g, o + (8 + h), none⟩ by simp [Addr.add_lit], midB_eq] at hd
      have j1 : (8 + (h : Int)).toNat = 8 + h := by omega
      have j2 : 8 + n - (8 + h) = n - h := by omega
      have j3 : c ≠ 8 + h := by omega
      by_cases hD : decE (midB bs n h) = 0
      · obtain ⟨r, hr⟩ : ∃ r, recOf (midB bs n h) = r := ⟨_, rfl⟩
        obtain ⟨D, hDL⟩ : ∃ D, decL (midB bs n h) = D := ⟨_, rfl⟩
        have hst := scanW_step (by rw [HL.out]; omega) hlt hD
        have hgo := scanW_go hlt hD
        rw [hDL] at hst
        rw [hr, hDL] at hgo
        have HR := Lib.hid hr
        have HDL := Lib.hid hDL
        have HGO := Lib.hid hgo
        have HD := Lib.hid hD
        have hst1 := hst.1
        have hst2 := hst.2
        clear hr hDL hgo hD hst
        go_wp2_with fail
        refine (rdecR_yes hd (by omega) HD.out r HR.out D HDL.out).mono ?_
        rintro e w1 ⟨rfl, g1⟩
        have HT1 := HT.keep g1
        have G1 := G.trans g1
        have hz1 := G1.size
        clear HT G g1 hd
        have K4 := Blk.new w1 31 [.int .i64 r.call, .int .i64 r.ino, .bool r.tr, .int .i64 r.off, .string r.dat] _ (0, 0) rfl
        have t0 := K4.2 0 _ rfl; have t1 := K4.2 1 _ rfl; have t2 := K4.2 2 _ rfl; have t3 := K4.2 3 _ rfl; have t4 := K4.2 4 _ rfl
        clear K4
        go_wp2_with ((first
          | (at_builtin; refine wpList_appR1 rfl (.tmp 68) (.tmp 70) rfl w.heap.size _ _ L K rfl r (by first | rfl | (show Value.slice (some ⟨w1.heap.size + 1, 0, none⟩) 1 1 = _; simp)) (by exact HT1.keep ((Grow.refl _).alloc _)) (by omega) (by simp; omega) ?_; intro v2 w2 q1 q2)
          | (at_builtin; refine wpList_appI1 rfl (.tmp 72) (.tmp 74) rfl w.heap.size _ _ (L ++ [r]) K rfl _ (by rfl) q1 (by omega) (by have := Below.size q2; simp at this; omega) ?_; intro u3 w3 q3 q4)))
        have X : ScanInv w w3 bs n h0 (.int .i64 ((h : Int) + (D : Int))) v2 u3 := by
          refine ⟨h + D, L ++ [r], K ++ [((h + D : Nat) : Int)], by simp, by omega, by simp; omega, by simp; omega, by simpa using q3, ((G1.alloc _).low (q2.mono (by omega))).low q4, Lib.hid ?_⟩
          rw [← HS.out.1, ← HS.out.2, HGO.out]
          simp
        go_roundw
        case rel => first | exact X | ((repeat apply Exists.intro); refine ⟨X, ?_⟩; first | rfl | simp [z1, z2])
        case measure => simp [intOf]; omega
      · obtain ⟨y, hy⟩ : ∃ y, decE (midB bs n h) = y := ⟨_, rfl⟩
        have hb := scanW_bad hD
        rw [hy] at hD
        have HY := Lib.hid hy
        have hyb : (y != 0) = true := by rw [bne_iff_ne]; exact hD
        have hHS : L = (scanW bs n h0).map (·.1) ∧ K = (scanW bs n h0).map (·.2) := by have := HS.out; rw [hb] at this; simpa using this
        have HS2 := Lib.hid hHS
        have HY0 := Lib.hid hD
        clear hy hb hHS HS hD
        go_wp2_with fail
        refine (rdecR_no hd (by omega) y HY.out HY0.out).mono ?_
        rintro e w1 ⟨rfl, g1⟩
        go_wp2_with fail
        go_ret2
        exact ⟨_, _, rfl, by rw [← HS2.out.1, ← HS2.out.2]; exact HT.keep (g1.alloc _), (G.trans g1).alloc _⟩
    · have hb := scanW_end (b := bs) hlt
      have hHS : L = (scanW bs n h0).map (·.1) ∧ K = (scanW bs n h0).map (·.2) := by have := HS.out; rw [hb] at this; simpa using this
      have HS2 := Lib.hid hHS
      clear hb hHS HS
      go_wp2_with fail
      go_ret2
      exact ⟨_, _, rfl, by rw [← HS2.out.1, ← HS2.out.2]; exact HT, G⟩
theorem ref16_scan_size {A : Option Addr} {k c : Nat} {w : World} (hk : k ≠ 1024) (epoch head : Int) :
    Calls Try.prog 22 #[.slice A k c, .int .i64 epoch, .int .i64 head] w fun e w' => e = .returned (.tuple #[.slice none 0 0, .slice none 0 0]) ∧ w = w' := by
  have k3 : ((k : Int) != 1024) = true := by rw [bne_iff_ne]; omega
  clear hk
  go_enter Try.func22, Try.ntmps22
  go_wp2_with fail
  go_ret2
  exact ⟨rfl, rfl⟩

theorem ref16_scan_neg {A : Option Addr} {k c : Nat} {w : World} (hk : k = 1024) (epoch head : Int) (hh : head < 0) :
    Calls Try.prog 22 #[.slice A k c, .int .i64 epoch, .int .i64 head] w fun e w' => e = .returned (.tuple #[.slice none 0 0, .slice none 0 0]) ∧ w = w' := by
  have k3 : ((k : Int) != 1024) = false := by rw [hk]; rfl
  clear hk
  go_enter Try.func22, Try.ntmps22
  go_wp2_with fail
  go_ret2
  exact ⟨rfl, rfl⟩

theorem ref16_scan_noget {A : Option Addr} {k c : Nat} {bs : List UInt8} {w : World} (hs : Sl w A k bs) (hk : k = 1024) (epoch head : Int) (hh : 0 ≤ head) (hK : getK bs 0 8 = false) :
    Calls Try.prog 22 #[.slice A k c, .int .i64 epoch, .int .i64 head] w fun e w' => e = .returned (.tuple #[.slice none 0 0, .slice none 0 0]) ∧ w = w' := by
  have k3 : ((k : Int) != 1024) = false := by rw [hk]; rfl
  have HK := Lib.hid hK
  clear hk hK
  go_enter Try.func22, Try.ntmps22
  go_wp2_with fail
  refine (rget_s (at_ := 0) (x := 8) hs (by decide) (by decide)).mono ?_
  rintro e w' ⟨rfl, rfl⟩
  rw [HK.out]
  go_wp2_with fail
  go_ret2
  exact ⟨rfl, rfl⟩

theorem ref16_scan_noend {A : Option Addr} {k c : Nat} {bs : List UInt8} {w : World} (hs : Sl w A k bs) (hk : k = 1024) (epoch head : Int) (hh : 0 ≤ head) (N p q : Int) (hN : getN bs 0 8 = N) (hK : getK bs 0 8 = true) (wp : wrap64 p = p) (d1 : Int.tdiv N 4294967296 = p) (d2 : Int.tmod N 4294967296 = q) (hE : endB p q = false) :
    Calls Try.prog 22 #[.slice A k c, .int .i64 epoch, .int .i64 head] w fun e w' => e = .returned (.tuple #[.slice none 0 0, .slice none 0 0]) ∧ w = w' := by
  have k3 : ((k : Int) != 1024) = false := by rw [hk]; rfl
  have HK := Lib.hid hK
  have HN := Lib.hid hN
  have HE := Lib.hid hE
  clear hk hK hN hE
  go_enter Try.func22, Try.ntmps22
  go_wp2_with fail
  refine (rget_s (at_ := 0) (x := 8) hs (by decide) (by decide)).mono ?_
  rintro e w' ⟨rfl, rfl⟩
  rw [HN.out, HK.out]
  go_wp2_with fail
  refine (ref16_end_sign _ _ false HE.out _).mono ?_
  rintro e w' ⟨X, rfl, hX, rfl⟩
  simp only [Bool.not_false] at hX
  clear d2
  go_wp2_with fail
  go_ret2
  exact ⟨rfl, rfl⟩

theorem ref16_scan_other {A : Option Addr} {k c : Nat} {bs : List UInt8} {w : World} (hs : Sl w A k bs) (hk : k = 1024) (epoch head : Int) (hh : 0 ≤ head) (N p q : Int) (hN : getN bs 0 8 = N) (hK : getK bs 0 8 = true) (wp : wrap64 p = p) (d1 : Int.tdiv N 4294967296 = p) (d2 : Int.tmod N 4294967296 = q) (hE : endB p q = true) (hp : p ≠ epoch) :
    Calls Try.prog 22 #[.slice A k c, .int .i64 epoch, .int .i64 head] w fun e w' => e = .returned (.tuple #[.slice none 0 0, .slice none 0 0]) ∧ w = w' := by
  have k3 : ((k : Int) != 1024) = false := by rw [hk]; rfl
  have hp' : (p != epoch) = true := by rw [bne_iff_ne]; exact hp
  have HK := Lib.hid hK
  have HN := Lib.hid hN
  have HE := Lib.hid hE
  clear hk hK hN hE hp
  go_enter Try.func22, Try.ntmps22
  go_wp2_with fail
  refine (rget_s (at_ := 0) (x := 8) hs (by decide) (by decide)).mono ?_
  rintro e w' ⟨rfl, rfl⟩
  rw [HN.out, HK.out]
  go_wp2_with fail
  refine (ref16_end_sign _ _ true HE.out _).mono ?_
  rintro e w' ⟨X, rfl, hX, rfl⟩
  simp only [Bool.not_true] at hX
  clear d2
  go_wp2_with fail
  go_ret2
  exact ⟨rfl, rfl⟩

set_option maxHeartbeats 1000000 in
theorem ref16_scan_past {A : Option Addr} {k c : Nat} {bs : List UInt8} {w : World} (hs : Sl w A k bs) (hk : k = 1024) (epoch head : Int) (hh : 0 ≤ head) (N q : Int) (hN : getN bs 0 8 = N) (hK : getK bs 0 8 = true) (wp : wrap64 epoch = epoch) (d1 : Int.tdiv N 4294967296 = epoch) (d2 : Int.tmod N 4294967296 = q) (hE : endB epoch q = true) (hq : q ≤ head) :
    Calls Try.prog 22 #[.slice A k c, .int .i64 epoch, .int .i64 head] w fun e w' => e = .returned (.tuple #[.slice none 0 0, .slice none 0 0]) ∧ w = w' := by
  have k3 : ((k : Int) != 1024) = false := by rw [hk]; rfl
  have HK := Lib.hid hK
  have HN := Lib.hid hN
  have HE := Lib.hid hE
  have z2 : decide (head < 0) = false := decide_eq_false (by omega)
  clear hk hK hN hE
  go_enter Try.func22, Try.ntmps22
  go_wp2_with fail
  refine (rget_s (at_ := 0) (x := 8) hs (by decide) (by decide)).mono ?_
  rintro e w' ⟨rfl, rfl⟩
  rw [HN.out, HK.out]
  go_wp2_with fail
  refine (ref16_end_sign _ _ true HE.out _).mono ?_
  rintro e w' ⟨X, rfl, hX, rfl⟩
  simp only [Bool.not_true] at hX
  clear d2
  go_wp2_with fail
  clear d1 wp hX
  go_loopw [2, 8, 9] (fun hd v u wr => hd = .int .i64 head ∧ v = .slice none 0 0 ∧ u = .slice none 0 0 ∧ w = wr) (fun _ _ _ _ => 0)
  case atStart => exact ⟨rfl, rfl, rfl, rfl⟩
  case round =>
    obtain ⟨rfl, rfl, rfl, rfl⟩ := hrel
    go_wp2_with fail
    go_ret2
    exact ⟨rfl, rfl⟩

theorem ref16_scan {A : Option Addr} {k c : Nat} {bs : List UInt8} {w : World} (hs : Sl w A k bs) (hk : k = 1024) (hc : k ≤ c) (epoch head : Int) :
    Calls Try.prog 22 #[.slice A k c, .int .i64 epoch, .int .i64 head] w fun e w' => ∃ v u, e = .returned (.tuple #[v, u]) ∧ Two w' w.heap.size v ((scanP bs epoch head).map (·.1)) u ((scanP bs epoch head).map (·.2)) ∧ Grow w w' := by
  have nil : scanP bs epoch head = [] → (∀ {e : Ending} {w' : World}, e = .returned (.tuple #[.slice none 0 0, .slice none 0 0]) ∧ w = w' → ∃ v u, e = .returned (.tuple #[v, u]) ∧ Two w' w.heap.size v ((scanP bs epoch head).map (·.1)) u ((scanP bs epoch head).map (·.2)) ∧ Grow w w') := by
    rintro h e w' ⟨rfl, rfl⟩
    rw [h]
    exact ⟨_, _, rfl, Two.nil _ _, Grow.refl _⟩
  by_cases h0 : head < 0
  · exact (ref16_scan_neg hk epoch head h0).mono fun e w' h => nil (by unfold scanP; rw [if_neg (by omega)]) h
  have hh : 0 ≤ head := by omega
  cases hK : getK bs 0 8 with
  | false =>
    refine (ref16_scan_noget hs hk epoch head hh hK).mono fun e w' h => nil ?_ h
    have hN : getN bs 0 8 = 0 := get_no hK
    unfold scanP
    rw [hN]
    split
    · exact scanW_end (by simp)
    · rfl
  | true =>
    obtain ⟨N, hN⟩ : ∃ N, getN bs 0 8 = N := ⟨_, rfl⟩
    have hr := get_any bs 0 8
    rw [hN] at hr
    have d1 : Int.tdiv N 4294967296 = N / 4294967296 := Int.tdiv_eq_ediv_of_nonneg hr.1
    have d2 : Int.tmod N 4294967296 = N % 4294967296 := Int.tmod_eq_emod_of_nonneg hr.1
    have wp : wrap64 (N / 4294967296) = N / 4294967296 := IntWalk.wrap64_in _ (by omega)
    cases hE : endB (N / 4294967296) (N % 4294967296) with
    | false =>
      refine (ref16_scan_noend hs hk epoch head hh N _ _ hN hK wp d1 d2 hE).mono fun e w' h => nil ?_ h
      unfold scanP
      rw [hN, if_neg (by rw [hE]; simp)]
    | true =>
      by_cases hp : N / 4294967296 = epoch
      · rw [hp] at d1 wp hE
        by_cases hq : N % 4294967296 ≤ head
        · refine (ref16_scan_past hs hk epoch head hh N _ hN hK wp d1 d2 hE hq).mono fun e w' h => nil ?_ h
          unfold scanP
          rw [hN]
          split
          · exact scanW_end (by omega)
          · rfl
        · obtain ⟨h1, rfl⟩ := Int.eq_ofNat_of_zero_le hh
          obtain ⟨n, hn⟩ := Int.eq_ofNat_of_zero_le (show 0 ≤ N % 4294967296 by omega)
          have hb := endB_iff.1 hE
          rw [hn] at d2 hE hq hb
          have := ref16_scan_loop hs hk hc epoch n h1 (by omega) (by omega) N hN hK d1 d2 hE
          have h1 : scanP bs epoch (h1 : Nat) = scanW bs n h1 := by
            unfold scanP
            rw [hN, hn, if_pos ⟨by rw [hp]; exact hE, hp, hh⟩]
            rfl
          rw [h1]
          exact this
      · refine (ref16_scan_other hs hk epoch head hh N _ _ hN hK wp d1 d2 hE hp).mono fun e w' h => nil ?_ h
        unfold scanP
        rw [hN, if_neg (fun q => hp q.2.1)]
end Go.Proofs.Ytnbgkkjhmdfmiaa
