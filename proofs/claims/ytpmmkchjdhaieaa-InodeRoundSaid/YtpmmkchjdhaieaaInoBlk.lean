/- inode.blocks. -/
import Derived.Test.YtpmmkchjdhaieaaInoMay
namespace Go.Proofs.Ytpmmkchjdhaieaa
open Go.RowKit

/-- The marks of blocks that were had. -/
def Had (w : World) (g : Nat) (l : List Int) : Prop := g < w.heap.size ∧ ∀ j : Nat, j < 129 → w.cell? ⟨g, j, none⟩ = some (.bool (decide ((j : Int) ∈ l))) ∧ w.frozen? ⟨g, j, none⟩ = false
def had0 : Array Value := Array.replicate 129 (.bool false)
theorem zero_had (w : World) : (zeroValue 55).run Try.prog w = .ok (.agg had0) w := by kernel_rfl
theorem Had.new (w : World) (t : TypeId) (cs : Array Value) (h : cs = had0) : Had (w.alloc (.cells cs t)) w.heap.size [] := by
  subst h
  refine ⟨by simp, fun j hj => ⟨?_, ?_⟩⟩
  · rw [cell_of_row _ _ j _ t (0, 0) (heap_alloc_new w _)]
    simp [had0, hj]
  · exact frozen_of_row _ _ j _ t (heap_alloc_new w _)
theorem Had.store {w : World} {g m : Nat} {l : List Int} (h : Had w g l) (hm : m < 129) : Had (w.setCell ⟨g, m, none⟩ (.bool true)) g (l ++ [(m : Int)]) := by
  refine ⟨by simpa using h.1, fun j hj => ⟨?_, ?_⟩⟩
  · by_cases e : j = m
    · subst e
      rw [cell_set_eq (h.2 j hj).1]
      simp
    · rw [World.cell?_setCell_other _ _ _ _ (fun e => by injection e; omega), (h.2 j hj).1]
      have e2 : ¬ (j : Int) = (m : Int) := by omega
      simp [e2]
  · have := (h.2 j hj).2
    simpa using this

theorem take_next (l : List Int) (k : Nat) (h : k < l.length) : l.take (k + 1) = l.take k ++ [l.getD k 0] := by
  rw [List.take_succ_eq_append_getElem h, List.getD_eq_getElem?_getD, List.getElem?_eq_getElem h]
  rfl
theorem mem_take (l : List Int) (k : Nat) (h : k ≤ l.length) (b : Int) : b ∈ l.take k ↔ ∃ j, j < k ∧ l.getD j 0 = b := by
  rw [List.mem_iff_getElem]
  constructor
  · rintro ⟨j, hj, e⟩
    rw [List.length_take] at hj
    refine ⟨j, by omega, ?_⟩
    rw [List.getD_eq_getElem?_getD, List.getElem?_eq_getElem (by omega)]
    simpa using e
  · rintro ⟨j, hj, e⟩
    refine ⟨j, by rw [List.length_take]; omega, ?_⟩
    rw [List.getD_eq_getElem?_getD, List.getElem?_eq_getElem (by omega)] at e
    simpa using e
theorem blk_no1 {k s b : Int} {l : List Int} {i : Nat} (hb : l.getD i 0 = b) (h : ¬ (0 ≤ b ∧ b ≤ 128)) : blkOK k s l i = false := by
  cases hx : blkOK k s l i with
  | false => rfl
  | true => have := (blkOK_iff.1 hx).1; rw [hb] at this; exact absurd this h
theorem blk_no2 {k s b : Int} {l : List Int} {i : Nat} (hi : i ≤ l.length) (hb : l.getD i 0 = b) (h0 : b ≠ 0) (h : b ∈ l.take i) : blkOK k s l i = false := by
  cases hx : blkOK k s l i with
  | false => rfl
  | true =>
    obtain ⟨j, hj, e⟩ := (mem_take l i hi b).1 h
    exact absurd ⟨by rw [e]; exact h0, by rw [e, hb]⟩ ((blkOK_iff.1 hx).2.1 j hj)
theorem blk_no3 {k s b : Int} {l : List Int} {i : Nat} (hb : l.getD i 0 = b) (hk : k = 1) (h : ¬ (b ≠ 0 ↔ 64 * (i : Int) < s)) : blkOK k s l i = false := by
  cases hx : blkOK k s l i with
  | false => rfl
  | true => have := (blkOK_iff.1 hx).2.2 hk; rw [hb] at this; exact absurd this h
theorem blk_yes {k s b : Int} {l : List Int} {i : Nat} (hi : i ≤ l.length) (hb : l.getD i 0 = b) (h1 : 0 ≤ b ∧ b ≤ 128) (h2 : b = 0 ∨ b ∉ l.take i) (h3 : k = 1 → (b ≠ 0 ↔ 64 * (i : Int) < s)) : blkOK k s l i = true := by
  rw [blkOK_iff, hb]
  refine ⟨h1, ?_, h3⟩
  rintro j hj ⟨n1, n2⟩
  rcases h2 with h2 | h2
  · exact n1 (n2.trans h2)
  · exact h2 ((mem_take l i hi b).2 ⟨j, hj, n2⟩)

set_option maxHeartbeats 2000000 in
set_option maxRecDepth 100000 in
theorem inode_blocks (k l s b0 b1 b2 b3 o0 o1 o2 o3 o4 o5 o6 o7 : Int) (w : World) : Calls Try.prog 26 #[.agg #[.int .i64 k, .int .i64 l, .int .i64 s, .int .i64 b0, .int .i64 b1, .int .i64 b2, .int .i64 b3, .int .i64 o0, .int .i64 o1, .int .i64 o2, .int .i64 o3, .int .i64 o4, .int .i64 o5, .int .i64 o6, .int .i64 o7]] w fun e w' => e = .returned (.bool (blksOK k s [b0, b1, b2, b3] 4)) ∧ Grow w w' := by
  have hz := zero_had
  go_enter Try.func26, Try.ntmps26
  go_wp2
  go_loopw [8] (fun i wr => ∃ n : Nat, n ≤ 4 ∧ i = .int .i64 n ∧ Hid (blksOK k s [b0, b1, b2, b3] n = true) ∧ Had wr (w.heap.size + 1) ([b0, b1, b2, b3].take n) ∧ Blk wr w.heap.size [.int .i64 k, .int .i64 l, .int .i64 s, .int .i64 b0, .int .i64 b1, .int .i64 b2, .int .i64 b3, .int .i64 o0, .int .i64 o1, .int .i64 o2, .int .i64 o3, .int .i64 o4, .int .i64 o5, .int .i64 o6, .int .i64 o7] ∧ Grow w wr) (fun i _ => 4 - (intOf i).toNat)
  case atStart =>
    refine ⟨0, Nat.zero_le _, rfl, Lib.hid rfl, ?_, (Blk.new w 25 [.int .i64 k, .int .i64 l, .int .i64 s, .int .i64 b0, .int .i64 b1, .int .i64 b2, .int .i64 b3, .int .i64 o0, .int .i64 o1, .int .i64 o2, .int .i64 o3, .int .i64 o4, .int .i64 o5, .int .i64 o6, .int .i64 o7] _ (0, 0) rfl).keep ((Grow.refl _).alloc _), ((Grow.refl _).alloc _).alloc _⟩
    have := Had.new (w.alloc (.cells (List.toArray [.int .i64 k, .int .i64 l, .int .i64 s, .int .i64 b0, .int .i64 b1, .int .i64 b2, .int .i64 b3, .int .i64 o0, .int .i64 o1, .int .i64 o2, .int .i64 o3, .int .i64 o4, .int .i64 o5, .int .i64 o6, .int .i64 o7]) 25)) 55 _ rfl
    simpa using this
  case round =>
    obtain ⟨n, hn, rfl, hok, hhad, hblk, hg⟩ := hrel
    by_cases hlt : n < 4
    · have hi := idx4 b0 b1 b2 b3 n hlt
      have TN := Lib.hid (take_next [b0, b1, b2, b3] n hlt)
      obtain ⟨b, hb⟩ : ∃ b, b = [b0, b1, b2, b3].getD n 0 := ⟨_, rfl⟩
      rw [← hb] at hi TN
      have HB := Lib.hid hb.symm
      have c0 := hblk.2 0 _ rfl
      have c2 := hblk.2 2 _ rfl
      clear hb
      by_cases hr : 0 ≤ b ∧ b ≤ 128
      · obtain ⟨m, rfl⟩ := Int.eq_ofNat_of_zero_le hr.1
        have hm : m < 129 := by omega
        obtain ⟨hcell, hfz⟩ := hhad.2 m hm
        obtain ⟨c, hc⟩ : ∃ c, c = decide ((m : Int) ∈ [b0, b1, b2, b3].take n) := ⟨_, rfl⟩
        rw [← hc] at hcell
        have HC := Lib.hid hc
        have hd : decide (0 ≤ (m : Int) ∧ (m : Int) ≤ 128) = true := decide_eq_true hr
        have HST := Lib.hid (hhad.store hm)
        rw [← TN.out] at HST
        have HBL := Lib.hid (hblk.set_ne (p := ⟨w.heap.size + 1, m, none⟩) (v := .bool true) (by simp))
        have HG := Lib.hid (hg.setCell (p := ⟨w.heap.size + 1, m, none⟩) (by simp) (.bool true))
        clear hc hr hhad hblk
        by_cases hm0 : m = 0
        · subst hm0
          by_cases hk : k = 1
          · have hk1 : (k == 1) = true := by rw [beq_iff_eq]; exact hk
            have HK := Lib.hid hk
            clear hk
            by_cases hs : (n : Int) * 64 < s
            · skip
              go_wp2_with fail
              refine (inode_in _ _ _).mono ?_
              rintro e w1 ⟨rfl, rfl⟩
              try rw [hd]
              go_wp2_with fail
              go_ret
              exact ⟨ret_bool (blksOK_false (blk_no3 HB.out HK.out (by simp; omega)) hlt).symm, hg⟩
            · have hs2 : s ≤ (n : Int) * 64 := by omega
              go_wp2_with fail
              refine (inode_in _ _ _).mono ?_
              rintro e w1 ⟨rfl, rfl⟩
              try rw [hd]
              go_wp2_with fail
              go_roundw
              case rel => exact ⟨n + 1, by omega, by go_num, Lib.hid (by rw [blksOK, hok.out, blk_yes (by simp; omega) HB.out ⟨by omega, by omega⟩ (.inl rfl) (fun _ => by simp; omega)]; rfl), HST.out, HBL.out, HG.out⟩
              case measure => simp [intOf]; omega
          · have hk1 : (k == 1) = false := by rw [beq_eq_false_iff_ne]; exact hk
            have HK := Lib.hid hk
            clear hk
            go_wp2_with fail
            refine (inode_in _ _ _).mono ?_
            rintro e w1 ⟨rfl, rfl⟩
            try rw [hd]
            go_wp2_with fail
            go_roundw
            case rel => exact ⟨n + 1, by omega, by go_num, Lib.hid (by rw [blksOK, hok.out, blk_yes (by simp; omega) HB.out ⟨by omega, by omega⟩ (.inl rfl) (fun h => absurd h HK.out)]; rfl), HST.out, HBL.out, HG.out⟩
            case measure => simp [intOf]; omega
        · have hm1 : 0 < (m : Int) := by omega
          have hm2 : 0 < m := by omega
          clear hm0
          cases c with
          | true =>
            go_wp2_with fail
            refine (inode_in _ _ _).mono ?_
            rintro e w1 ⟨rfl, rfl⟩
            try rw [hd]
            go_wp2_with fail
            go_ret
            exact ⟨ret_bool (blksOK_false (blk_no2 (by simp; omega) HB.out (by omega) (of_decide_eq_true HC.out.symm)) hlt).symm, hg⟩
          | false =>
            by_cases hk : k = 1
            · have hk1 : (k == 1) = true := by rw [beq_iff_eq]; exact hk
              have HK := Lib.hid hk
              clear hk
              by_cases hs : (n : Int) * 64 < s
              · skip
                go_wp2_with fail
                refine (inode_in _ _ _).mono ?_
                rintro e w1 ⟨rfl, rfl⟩
                try rw [hd]
                go_wp2_with fail
                go_roundw
                case rel => exact ⟨n + 1, by omega, by go_num, Lib.hid (by rw [blksOK, hok.out, blk_yes (by simp; omega) HB.out ⟨by omega, by omega⟩ (.inr (of_decide_eq_false HC.out.symm)) (fun _ => by simp; omega)]; rfl), HST.out, HBL.out, HG.out⟩
                case measure => simp [intOf]; omega
              · have hs2 : s ≤ (n : Int) * 64 := by omega
                have hs3 : decide ((n : Int) * 64 < s) = false := decide_eq_false hs
                go_wp2_with fail
                refine (inode_in _ _ _).mono ?_
                rintro e w1 ⟨rfl, rfl⟩
                try rw [hd]
                go_wp2_with fail
                go_ret
                exact ⟨ret_bool (blksOK_false (blk_no3 HB.out HK.out (by simp; omega)) hlt).symm, hg⟩
            · have hk1 : (k == 1) = false := by rw [beq_eq_false_iff_ne]; exact hk
              have HK := Lib.hid hk
              clear hk
              go_wp2_with fail
              refine (inode_in _ _ _).mono ?_
              rintro e w1 ⟨rfl, rfl⟩
              try rw [hd]
              go_wp2_with fail
              go_roundw
              case rel => exact ⟨n + 1, by omega, by go_num, Lib.hid (by rw [blksOK, hok.out, blk_yes (by simp; omega) HB.out ⟨by omega, by omega⟩ (.inr (of_decide_eq_false HC.out.symm)) (fun h => absurd h HK.out)]; rfl), HST.out, HBL.out, HG.out⟩
              case measure => simp [intOf]; omega
      · have hd : decide (0 ≤ b ∧ b ≤ 128) = false := decide_eq_false hr
        have HR := Lib.hid hr
        clear hr hhad hblk
        go_wp2_with fail
        refine (inode_in _ _ _).mono ?_
        rintro e w1 ⟨rfl, rfl⟩
        try rw [hd]
        go_wp2_with fail
        go_ret
        exact ⟨ret_bool (blksOK_false (blk_no1 HB.out HR.out) hlt).symm, hg⟩
    · obtain rfl : n = 4 := by omega
      go_wp2
      go_ret
      exact ⟨ret_bool hok.out.symm, hg⟩
end Go.Proofs.Ytpmmkchjdhaieaa
