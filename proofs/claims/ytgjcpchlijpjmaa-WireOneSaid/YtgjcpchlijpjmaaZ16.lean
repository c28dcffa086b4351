/- The laws' example. No statement of the seat is proved here. -/
import Derived.Test.YtgjcpchlijpjmaaZ15
namespace Go.Proofs.Ytgjcpchlijpjmaa
open Go.RowKit Go.Great

def liveP : PK := { kind := 5, client := 2, epoch := 1, ino := 3 }
def liveB : List UInt8 := [5, 2, 1, 0, 0, 0, 0, 0, 0, 0, 0, 0, 0, 0, 3]
theorem live_put : putP liveP = some (sumB liveB) := putP_some (by decide +kernel) (by decide +kernel)
theorem live_ok : liveP.ok := { zero_ok with kind := ⟨by decide, by decide⟩, client := ⟨by decide, by decide⟩, epoch := ⟨by decide, by decide⟩, ino := ⟨by decide, by decide⟩ }

set_option maxHeartbeats 16000000 in
set_option maxRecDepth 8000 in
theorem lives7 (w : World) : Calls Try.prog 13 #[] w fun e w' => e = .returned (.bool true) ∧ Grow w w' := by
  have HE0 := Lib.hid (show putE liveP = 0 by unfold putE; rw [live_put]; rfl)
  have HL0 := Lib.hid (show putL liveP = sumB liveB by unfold putL; rw [live_put]; rfl)
  go_enter Try.func13, Try.ntmps13
  go_upto_region 1 with (fail)
  have hput := w_putK (w := w) (A := none) (k := 0) (c := 0) liveP live_ok rfl (RS.nil _)
  refine wp_region_list ?_
  refine wpList_buildTo rfl 35 _ rfl (some 8) rfl (liveP.cells (.slice none 0 0)).toArray (by kernel_rfl) ?_
  refine wpList_callC rfl (some 9) rfl 10 #[.agg (liveP.cells (.slice none 0 0)).toArray] (by first | rfl | go_simp) _ hput (fun e w' h => by obtain ⟨_, _, _, h, -⟩ := h; exact ⟨_, h⟩) ?_
  rintro v w1 ⟨A1, n1, c1, he, ho, G1⟩
  obtain rfl : v = .tuple #[.slice A1 n1 c1, .int .i64 (putE liveP)] := by injection he
  rw [HE0.out]
  rw [HL0.out] at ho
  obtain rfl : n1 = 19 := by rw [← ho.1]; rfl
  have HO1 := Lib.hid ho
  have HG1 := Lib.hid G1
  have hc1 := ho.cap
  clear he ho hput G1
  go_upto_region 2 with (fail)
  have hlit := Sl.lit w1 5 #[.int .u8 1, .int .u8 2, .int .u8 3] [1, 2, 3] 3 rfl rfl (by omega)
  have ga1 := (Grow.refl w1).alloc (.cells #[.int .u8 1, .int .u8 2, .int .u8 3] 5)
  refine wp_region_list ?_
  refine wpList_buildSliceTo rfl _ 5 3 _ rfl w1.heap.size rfl (some 13) rfl Try.underlying37 #[.int .u8 1, .int .u8 2, .int .u8 3] (by kernel_rfl) ?_
  obtain ⟨w2, hw2⟩ : ∃ z, z = w1.alloc (.cells #[.int .u8 1, .int .u8 2, .int .u8 3] 5) := ⟨_, rfl⟩
  obtain ⟨y2, hy2⟩ : ∃ z, z = w1.heap.size := ⟨_, rfl⟩
  rw [← hw2] at hlit ga1 ⊢
  rw [← hy2] at hlit ⊢
  have HL3 := Lib.hid (show rdE [1, 2, 3] = 3 from (rdE_short (bs := [1, 2, 3]) (by decide)).1)
  have HS3 := Lib.hid hlit
  have HG2 := Lib.hid (HG1.out.trans ga1)
  have HO2 := Lib.hid (HO1.out.keepW ga1)
  clear hw2 hy2 hlit ga1 HO1
  have hread := w_read HS3.out (Nat.le_refl _) (by omega) HS3.out.blk
  obtain ⟨V3, hV3⟩ : ∃ z, z = rdV [1, 2, 3] := ⟨_, rfl⟩
  obtain ⟨E3, hE3⟩ : ∃ z, z = rdE [1, 2, 3] := ⟨_, rfl⟩
  rw [← hV3, ← hE3] at hread
  have HV3 := Lib.hid hV3
  have HE3 := Lib.hid hE3
  clear hV3 hE3
  refine wpList_callC rfl (some 14) rfl 14 #[.slice (some ⟨y2, 0, none⟩) 3 3] (by first | rfl | go_simp) _ hread (fun e w' h => by rcases h with ⟨nv, h, -⟩; exact ⟨_, h⟩) ?_
  rintro v wr3 ⟨nv, he, g6, os6⟩
  obtain rfl : v = .tuple #[.agg (V3.cells nv).toArray, .int .i64 E3] := by injection he
  clear he hread
  go_simp
  refine wpList_runTo rfl (some 12) rfl (.tuple #[.agg (V3.cells nv).toArray, .int .i64 E3]) wr3 (by first | rfl | go_simp) ?_
  refine wpList_runTo rfl (some 15) rfl (.agg (V3.cells nv).toArray) wr3 (by go_simp) ?_
  go_simp
  refine wpList_runTo rfl (some 16) rfl (.int .i64 E3) wr3 (by go_simp) ?_
  have hy0 := Row.new wr3 35 zP #[.int .i64 0, .int .i64 0, .int .i64 0, .int .i64 0, .int .i64 0, .int .i64 0, .int .i64 0, .string ⟨#[]⟩, .int .i64 0, .int .i64 0, .int .i64 0, .string ⟨#[]⟩, .string ⟨#[]⟩, .int .i64 0, .int .i64 0, .int .i64 0, .int .i64 0, .string ⟨#[]⟩, .int .i64 0, .int .i64 0, .int .i64 0, .int .i64 0, .string ⟨#[]⟩, .slice none 0 0, .int .i64 0, .int .i64 0, .int .i64 0, .int .i64 0, .int .i64 0, .int .i64 0, .int .i64 0, .int .i64 0, .int .i64 0, .int .i64 0, .int .i64 0, .int .i64 0, .int .i64 0, .int .i64 0, .int .i64 0, .int .i64 0, .int .i64 0, .int .i64 0, .int .i64 0] rfl
  have ga := (Grow.refl wr3).alloc (.cells #[.int .i64 0, .int .i64 0, .int .i64 0, .int .i64 0, .int .i64 0, .int .i64 0, .int .i64 0, .string ⟨#[]⟩, .int .i64 0, .int .i64 0, .int .i64 0, .string ⟨#[]⟩, .string ⟨#[]⟩, .int .i64 0, .int .i64 0, .int .i64 0, .int .i64 0, .string ⟨#[]⟩, .int .i64 0, .int .i64 0, .int .i64 0, .int .i64 0, .string ⟨#[]⟩, .slice none 0 0, .int .i64 0, .int .i64 0, .int .i64 0, .int .i64 0, .int .i64 0, .int .i64 0, .int .i64 0, .int .i64 0, .int .i64 0, .int .i64 0, .int .i64 0, .int .i64 0, .int .i64 0, .int .i64 0, .int .i64 0, .int .i64 0, .int .i64 0, .int .i64 0, .int .i64 0] 35)
  refine wpList_allocTo rfl (some 3) rfl (.pointer (some ⟨wr3.heap.size, 0, none⟩)) (.cells #[.int .i64 0, .int .i64 0, .int .i64 0, .int .i64 0, .int .i64 0, .int .i64 0, .int .i64 0, .string ⟨#[]⟩, .int .i64 0, .int .i64 0, .int .i64 0, .string ⟨#[]⟩, .string ⟨#[]⟩, .int .i64 0, .int .i64 0, .int .i64 0, .int .i64 0, .string ⟨#[]⟩, .int .i64 0, .int .i64 0, .int .i64 0, .int .i64 0, .string ⟨#[]⟩, .slice none 0 0, .int .i64 0, .int .i64 0, .int .i64 0, .int .i64 0, .int .i64 0, .int .i64 0, .int .i64 0, .int .i64 0, .int .i64 0, .int .i64 0, .int .i64 0, .int .i64 0, .int .i64 0, .int .i64 0, .int .i64 0, .int .i64 0, .int .i64 0, .int .i64 0, .int .i64 0] 35) (by kernel_rfl) ?_
  go_simp
  obtain ⟨wa3, hwa⟩ : ∃ z, z = wr3.alloc (.cells #[.int .i64 0, .int .i64 0, .int .i64 0, .int .i64 0, .int .i64 0, .int .i64 0, .int .i64 0, .string ⟨#[]⟩, .int .i64 0, .int .i64 0, .int .i64 0, .string ⟨#[]⟩, .string ⟨#[]⟩, .int .i64 0, .int .i64 0, .int .i64 0, .int .i64 0, .string ⟨#[]⟩, .int .i64 0, .int .i64 0, .int .i64 0, .int .i64 0, .string ⟨#[]⟩, .slice none 0 0, .int .i64 0, .int .i64 0, .int .i64 0, .int .i64 0, .int .i64 0, .int .i64 0, .int .i64 0, .int .i64 0, .int .i64 0, .int .i64 0, .int .i64 0, .int .i64 0, .int .i64 0, .int .i64 0, .int .i64 0, .int .i64 0, .int .i64 0, .int .i64 0, .int .i64 0] 35) := ⟨_, rfl⟩
  obtain ⟨y3, hy⟩ : ∃ z, z = wr3.heap.size := ⟨_, rfl⟩
  rw [← hwa] at hy0 ga ⊢
  rw [← hy] at hy0 ⊢
  refine wpList_storeRow rfl 35 (.tmp 3) (.tmp 15) rfl rfl y3 rfl (V3.cells nv) zP rfl hy0 rfl pk_size (PK.one _ os6.one) ?_
  intro w3 r8 t8 z8
  have G3 : Grow w2 w3 := (g6.trans ga).low (t8.low (B := w2.heap.size) (fun i e => by have := g6.size; have e' : i = y3 := e; omega) (g6.trans ga).size)
  have OS8 : OS w3 w2.heap.size nv V3.names := row_turnW (os6.keep ga) t8 (fun k e q => by have := (World.ownsRow.lt os6 k e).2; have q' : k = y3 := q; omega)
  obtain ⟨AN3, cN3, rfl, hrs⟩ := RS.of_OS OS8
  have HNB3 := Lib.hid (show ∀ z, AN3 = some z → w2.heap.size ≤ z.block ∧ z.block < y3 from fun z hz => by
    subst hz
    rw [hy]
    exact World.ownsRow.lt os6 z.block rfl)
  have HOS3 := Lib.hid OS8
  obtain ⟨k3, hk3⟩ : ∃ z, z = V3.names.length := ⟨_, rfl⟩
  rw [← hk3] at hrs r8
  have HK3 := Lib.hid hk3
  have HY3 := Lib.hid r8
  have HN3 := Lib.hid hrs
  have hyl3 : y3 < w3.heap.size := r8.1.1
  have hyw3 : w2.heap.size ≤ y3 := by rw [hy]; exact g6.size
  replace HO2 := Lib.hid (HO2.out.keepW G3)
  clear g6 ga hy0 hy hwa os6 OS8 hrs r8 t8 z8 hk3
  rw [← HE3.out] at HL3
  obtain rfl : E3 = 3 := HL3.out
  have HG3 := Lib.hid (HG2.out.trans G3)
  have H15 := Lib.hid (show (sumB liveB).take 15 = liveB by decide +kernel)
  clear G3
  go_wp2_with fail
  refine (same_yes (((HO2.out.sl.take (k := 15) (by omega)).alloc _)) (Sl.lit w3 _ _ liveB 15 rfl rfl (by omega)) H15.out).mono ?_
  rintro e w4 ⟨rfl, k, rfl⟩
  go_wp2_with fail
  go_ret
  exact ⟨rfl, (HG3.out.alloc _).drewN _⟩
end Go.Proofs.Ytgjcpchlijpjmaa
