/- '==' at arrays of ints. Names are compared; packets are compared. wire.Read. No statement of the seat is proved here. -/
import Derived.Test.YtdlcpfgogjcciaaZ02
import Derived.ChangeKeysEq
import Derived.Test.YtdlcpfgogjcciaaZ09
import Derived.Test.YtdlcpfgogjcciaaZ03
import Derived.Test.YtdlcpfgogjcciaaZ06
namespace Go.Proofs.Ytdlcpfgogjcciaa
open Go.RowKit

theorem arr_info : (Try.prog.info? 3).map (fun i => (i.zero, i.size, i.bytes)) = some (some (.int .i64 0), 1, 8) := by kernel_rfl
theorem arr_cells : Try.prog.cellsOf 3 = 1 := by kernel_rfl

theorem eqItems_ints (d : Nat) (w : World) (xs ys : Array Value) (is : List Nat) (X Y : Nat → Int) (hX : ∀ i, i ∈ is → (part 3 xs (i * 1)).run Try.prog w = .ok (.int .i64 (X i)) w) (hY : ∀ i, i ∈ is → (part 3 ys (i * 1)).run Try.prog w = .ok (.int .i64 (Y i)) w) :
    (Op.eqItems (d + 1) 3 1 xs ys is).run Try.prog w = .ok (is.all fun i => X i == Y i) w := by
  induction is with
  | nil => simp [Op.eqItems]
  | cons j js ih =>
    have e1 := hX j (by simp)
    have e2 := hY j (by simp)
    have e3 := ih (fun i hi => hX i (by simp [hi])) (fun i hi => hY i (by simp [hi]))
    simp only [Op.eqItems, Sem.run_bind, e1, e2, Result.andThen_ok, run_equalIn_int w d 3 .i64 .i64 (X j) (Y j) Try.underlying3]
    cases h : (X j == Y j) <;> simp [h, e3]

set_option maxRecDepth 10000 in
theorem eql4 (d : Nat) (w : World) (a0 a1 a2 a3 c0 c1 c2 c3 : Int) : (Op.equalIn (d + 2) 31 (.agg #[.int .i64 a0, .int .i64 a1, .int .i64 a2, .int .i64 a3]) (.agg #[.int .i64 c0, .int .i64 c1, .int .i64 c2, .int .i64 c3])).run Try.prog w = .ok (a0 == c0 && a1 == c1 && a2 == c2 && a3 == c3) w := by
  obtain ⟨i0, hi, hz, h1, h2⟩ := info_parts arr_info
  rw [run_equalIn_array w (d + 1) _ _ Try.underlying31 hi, arr_cells]
  rw [eqItems_ints d w _ _ _ (fun i => [a0, a1, a2, a3].getD i 0) (fun i => [c0, c1, c2, c3].getD i 0)]
  · simp [List.range, List.range.loop, Bool.and_assoc]
  · intro i hi
    have : i = 0 ∨ i = 1 ∨ i = 2 ∨ i = 3 := by simp at hi; omega
    rcases this with rfl | rfl | rfl | rfl <;> rfl
  · intro i hi
    have : i = 0 ∨ i = 1 ∨ i = 2 ∨ i = 3 := by simp at hi; omega
    rcases this with rfl | rfl | rfl | rfl <;> rfl

set_option maxRecDepth 10000 in
theorem eql8 (d : Nat) (w : World) (a0 a1 a2 a3 a4 a5 a6 a7 c0 c1 c2 c3 c4 c5 c6 c7 : Int) : (Op.equalIn (d + 2) 32 (.agg #[.int .i64 a0, .int .i64 a1, .int .i64 a2, .int .i64 a3, .int .i64 a4, .int .i64 a5, .int .i64 a6, .int .i64 a7]) (.agg #[.int .i64 c0, .int .i64 c1, .int .i64 c2, .int .i64 c3, .int .i64 c4, .int .i64 c5, .int .i64 c6, .int .i64 c7])).run Try.prog w = .ok (a0 == c0 && a1 == c1 && a2 == c2 && a3 == c3 && a4 == c4 && a5 == c5 && a6 == c6 && a7 == c7) w := by
  obtain ⟨i0, hi, hz, h1, h2⟩ := info_parts arr_info
  rw [run_equalIn_array w (d + 1) _ _ Try.underlying32 hi, arr_cells]
  rw [eqItems_ints d w _ _ _ (fun i => [a0, a1, a2, a3, a4, a5, a6, a7].getD i 0) (fun i => [c0, c1, c2, c3, c4, c5, c6, c7].getD i 0)]
  · simp [List.range, List.range.loop, Bool.and_assoc]
  · intro i hi
    have : i = 0 ∨ i = 1 ∨ i = 2 ∨ i = 3 ∨ i = 4 ∨ i = 5 ∨ i = 6 ∨ i = 7 := by simp at hi; omega
    rcases this with rfl | rfl | rfl | rfl | rfl | rfl | rfl | rfl <;> rfl
  · intro i hi
    have : i = 0 ∨ i = 1 ∨ i = 2 ∨ i = 3 ∨ i = 4 ∨ i = 5 ∨ i = 6 ∨ i = 7 := by simp at hi; omega
    rcases this with rfl | rfl | rfl | rfl | rfl | rfl | rfl | rfl <;> rfl
end Go.Proofs.Ytdlcpfgogjcciaa

namespace Go.Proofs.Ytdlcpfgogjcciaa
open Go.RowKit

theorem ba_toList {a b : ByteArray} : a.toList = b.toList ↔ a = b := by
  rw [ByteArray.toList_eq, ByteArray.toList_eq]
  exact ⟨fun h => by cases a; cases b; simpa using h, fun h => by rw [h]⟩
theorem ba_beq (a b : ByteArray) : (a.toList == b.toList) = decide (a = b) := by
  rw [Bool.eq_iff_iff, beq_iff_eq, decide_eq_true_iff, ba_toList]

set_option maxHeartbeats 4000000 in
theorem names_equal {w : World} {A A' : Option Addr} {n n' c c' : Nat} {K L : List ByteArray} (hk : RS w A n K) (hl : RS w A' n' L) (hn : n ≤ 1048576) (hn' : n' ≤ 1048576) :
    Calls Try.prog 81 #[.slice A n c, .slice A' n' c'] w fun e w' => e = .returned (.bool (decide (K = L))) ∧ ∃ j, w' = w.drewN j := by
  by_cases hlen : n = n'
  · subst hlen
    have HK := Lib.hid hk
    have HL := Lib.hid hl
    clear hk hl
    go_enter Try.func81, Try.ntmps81
    go_wp2_with fail
    go_loopw [13] (fun i wr => ∃ k j : Nat, k ≤ n ∧ i = .int .i64 k ∧ K.take k = L.take k ∧ wr = w.drewN j) (fun i _ => n - (intOf i).toNat)
    case atStart => exact ⟨0, 0, Nat.zero_le _, rfl, rfl, rfl⟩
    case round =>
      obtain ⟨k, j, hk, rfl, ht, rfl⟩ := hrel
      have HT := Lib.hid ht
      clear ht
      by_cases hlt : k < n
      · obtain ⟨b, o, r, hr, rfl, _, hc⟩ := HK.out.at_ hlt
        obtain ⟨b', o', r', hr', rfl, _, hc'⟩ := HL.out.at_ hlt
        have HU := Lib.hid hr
        have HU' := Lib.hid hr'
        clear hr hr'
        by_cases he : r = r'
        · have heq : (r.toList == r'.toList) = true := by rw [he]; simp
          have HE := Lib.hid he
          clear he
          go_wp2
          go_quiet (fail)
          go_wp2
          go_roundw
          case rel =>
            refine ⟨k + 1, _, by omega, by go_num, ?_, rfl⟩
            rw [take_snoc HU.out, take_snoc HU'.out, HT.out, HE.out]
          case measure => simp [intOf]; omega
        · have heq : (r.toList == r'.toList) = false := by rw [beq_eq_false_iff_ne]; exact fun e => he (ba_toList.1 e)
          have HE := Lib.hid he
          clear he
          go_wp2
          go_quiet (fail)
          go_wp2
          go_ret
          refine ⟨ret_bool ?_, _, World.drewN_drewN ..⟩
          rw [eq_comm, decide_eq_false_iff_not]
          intro e
          have h1 := HU.out
          rw [e, HU'.out] at h1
          exact HE.out (by injection h1 with h1; exact h1.symm)
      · obtain rfl : k = n := by omega
        go_wp2
        go_ret
        refine ⟨ret_bool ?_, _, rfl⟩
        rw [eq_comm, decide_eq_true_iff]
        have h1 := HT.out
        rwa [List.take_of_length_le (by rw [HK.out.1]; exact Nat.le_refl _), List.take_of_length_le (by rw [HL.out.1]; exact Nat.le_refl _)] at h1
  · have hne : ¬ K = L := fun e => hlen (by rw [← hk.1, ← hl.1, e])
    have z1 : (((n : Nat) : Int) != ((n' : Nat) : Int)) = true := by rw [bne_iff_ne]; omega
    rw [decide_eq_false hne]
    clear hne
    go_enter Try.func81, Try.ntmps81
    go_wp2_with fail
    go_ret
    exact ⟨rfl, 0, rfl⟩

set_option maxHeartbeats 4000000 in
theorem names_same {w : World} {A A' : Option Addr} {n n' c c' : Nat} {K L : List ByteArray} (hk : RS w A n K) (hl : RS w A' n' L) (hn : n ≤ 1048576) (hn' : n' ≤ 1048576) :
    Calls Try.prog 43 #[.slice A n c, .slice A' n' c'] w fun e w' => e = .returned (.bool (decide (K = L))) ∧ ∃ j, w' = w.drewN j := by
  by_cases hlen : n = n'
  · subst hlen
    have HK := Lib.hid hk
    have HL := Lib.hid hl
    clear hk hl
    go_enter Try.func43, Try.ntmps43
    go_wp2_with fail
    go_loopw [5] (fun i wr => ∃ k j : Nat, k ≤ n ∧ i = .int .i64 k ∧ K.take k = L.take k ∧ wr = w.drewN j) (fun i _ => n - (intOf i).toNat)
    case atStart => exact ⟨0, 0, Nat.zero_le _, rfl, rfl, rfl⟩
    case round =>
      obtain ⟨k, j, hk, rfl, ht, rfl⟩ := hrel
      have HT := Lib.hid ht
      clear ht
      by_cases hlt : k < n
      · obtain ⟨b, o, r, hr, rfl, _, hc⟩ := HK.out.at_ hlt
        obtain ⟨b', o', r', hr', rfl, _, hc'⟩ := HL.out.at_ hlt
        have HU := Lib.hid hr
        have HU' := Lib.hid hr'
        clear hr hr'
        by_cases he : r = r'
        · have heq : (r.toList == r'.toList) = true := by rw [he]; simp
          have HE := Lib.hid he
          clear he
          go_wp2
          go_quiet (fail)
          go_wp2
          go_roundw
          case rel =>
            refine ⟨k + 1, _, by omega, by go_num, ?_, rfl⟩
            rw [take_snoc HU.out, take_snoc HU'.out, HT.out, HE.out]
          case measure => simp [intOf]; omega
        · have heq : (r.toList == r'.toList) = false := by rw [beq_eq_false_iff_ne]; exact fun e => he (ba_toList.1 e)
          have HE := Lib.hid he
          clear he
          go_wp2
          go_quiet (fail)
          go_wp2
          go_ret
          refine ⟨ret_bool ?_, _, World.drewN_drewN ..⟩
          rw [eq_comm, decide_eq_false_iff_not]
          intro e
          have h1 := HU.out
          rw [e, HU'.out] at h1
          exact HE.out (by injection h1 with h1; exact h1.symm)
      · obtain rfl : k = n := by omega
        go_wp2
        go_ret
        refine ⟨ret_bool ?_, _, rfl⟩
        rw [eq_comm, decide_eq_true_iff]
        have h1 := HT.out
        rwa [List.take_of_length_le (by rw [HK.out.1]; exact Nat.le_refl _), List.take_of_length_le (by rw [HL.out.1]; exact Nat.le_refl _)] at h1
  · have hne : ¬ K = L := fun e => hlen (by rw [← hk.1, ← hl.1, e])
    have z1 : (((n : Nat) : Int) != ((n' : Nat) : Int)) = true := by rw [bne_iff_ne]; omega
    rw [decide_eq_false hne]
    clear hne
    go_enter Try.func43, Try.ntmps43
    go_wp2_with fail
    go_ret
    exact ⟨rfl, 0, rfl⟩
/-! ## Packets -/
def callB (p q : PK) : Bool := decide (p.ckind = q.ckind ∧ p.path = q.path ∧ p.path2 = q.path2 ∧ p.flags = q.flags ∧ p.cfd = q.cfd ∧ p.coff = q.coff ∧ p.cn = q.cn ∧ p.cdata = q.cdata)
def nodeB (p q : PK) : Bool := decide (p.nkind = q.nkind ∧ p.nlinks = q.nlinks ∧ p.nsize = q.nsize ∧ p.b0 = q.b0 ∧ p.b1 = q.b1 ∧ p.b2 = q.b2 ∧ p.b3 = q.b3 ∧ p.o0 = q.o0 ∧ p.o1 = q.o1 ∧ p.o2 = q.o2 ∧ p.o3 = q.o3 ∧ p.o4 = q.o4 ∧ p.o5 = q.o5 ∧ p.o6 = q.o6 ∧ p.o7 = q.o7)
def infoB (p q : PK) : Bool := decide (p.ikind = q.ikind ∧ p.ilinks = q.ilinks ∧ p.isize = q.isize)
def headB (p q : PK) : Bool := decide (p.kind = q.kind) && decide (p.client = q.client) && decide (p.epoch = q.epoch) && decide (p.seq = q.seq) && decide (p.op = q.op)
def verbsB (p q : PK) : Bool := decide (p.at_ = q.at_) && decide (p.n = q.n) && decide (p.data = q.data) && decide (p.old = q.old) && decide (p.new = q.new)
def rpcsB (p q : PK) : Bool := callB p q && decide (p.ino = q.ino) && decide (p.errno = q.errno) && decide (p.wrote = q.wrote) && nodeB p q
def replyB (p q : PK) : Bool := decide (p.rerrno = q.rerrno) && decide (p.rfd = q.rfd) && decide (p.rdata = q.rdata) && infoB p q
theorem infoB_run (d : Nat) (w : World) (p q : PK) : (Op.equalIn (d + 3) 28 (.agg #[.int .i64 p.ikind, .int .i64 p.ilinks, .int .i64 p.isize]) (.agg #[.int .i64 q.ikind, .int .i64 q.ilinks, .int .i64 q.isize])).run Try.prog w = .ok (infoB p q) w := by
  have q4 := eql4
  have q8 := eql8
  go_simp
  unfold infoB
  try simp only [ba_toList]
  repeat' split
  all_goals simp_all
theorem callB_run (d : Nat) (w : World) (p q : PK) : (Op.equalIn (d + 3) 24 (.agg #[.int .i64 p.ckind, .string p.path, .string p.path2, .int .i64 p.flags, .int .i64 p.cfd, .int .i64 p.coff, .int .i64 p.cn, .string p.cdata]) (.agg #[.int .i64 q.ckind, .string q.path, .string q.path2, .int .i64 q.flags, .int .i64 q.cfd, .int .i64 q.coff, .int .i64 q.cn, .string q.cdata])).run Try.prog w = .ok (callB p q) w := by
  have q4 := eql4
  have q8 := eql8
  go_simp
  unfold callB
  try simp only [ba_toList]
  repeat' split
  all_goals simp_all
theorem nodeB_run (d : Nat) (w : World) (p q : PK) : (Op.equalIn (d + 4) 34 (.agg #[.int .i64 p.nkind, .int .i64 p.nlinks, .int .i64 p.nsize, .int .i64 p.b0, .int .i64 p.b1, .int .i64 p.b2, .int .i64 p.b3, .int .i64 p.o0, .int .i64 p.o1, .int .i64 p.o2, .int .i64 p.o3, .int .i64 p.o4, .int .i64 p.o5, .int .i64 p.o6, .int .i64 p.o7]) (.agg #[.int .i64 q.nkind, .int .i64 q.nlinks, .int .i64 q.nsize, .int .i64 q.b0, .int .i64 q.b1, .int .i64 q.b2, .int .i64 q.b3, .int .i64 q.o0, .int .i64 q.o1, .int .i64 q.o2, .int .i64 q.o3, .int .i64 q.o4, .int .i64 q.o5, .int .i64 q.o6, .int .i64 q.o7])).run Try.prog w = .ok (nodeB p q) w := by
  have q4 := eql4
  have q8 := eql8
  go_simp
  unfold nodeB
  try simp only [ba_toList]
  repeat' split
  all_goals simp_all

set_option maxHeartbeats 8000000 in
set_option maxRecDepth 8000 in
theorem ws_headB {w : World} {x : Nat} (p q : PK) (nv nv' : Value) (hx : Blk w x (p.cells nv)) (hy : Blk w (x + 1) (q.cells nv')) (t0 t1 t4 t5 t6 t7 t8 t9 t10 t11 t12 t13 t14 t15 t16 t17 t18 t19 t20 t21 t22 t23 t24 t25 t26 t27 t28 t29 t30 t31 t32 t33 t34 t35 t36 t37 t38 t39 t40 t41 t42 t43 t44 t45 t46 t47 t48 t49 t50 t51 t52 t53 t54 t55 t56 t57 t58 t59 t60 t61 t62 t63 t64 t65 t66 t67 t68 t69 t70 t71 t72 t73 t74 t75 t76 t77 t78 t79 t80 t81 t82 t83 t84 t85 t86 t87 t88 t89 t90 t91 t92 t93 t94 t95 t96 t97 t98 t99 t100 t101 t102 t103 t104 t105 t106 t107 t108 t109 t110 t111 t112 t113 t114 t115 t116 t117 t118 t119 t120 t121 t122 t123 t124 t125 t126 t127 t128 t129 t130 t131 t132 t133 t134 t135 t136 t137 t138 t139 t140 t141 t142 t143 t144 t145 t146 t147 t148 t149 t150 t151 t152 t153 t154 t155 t156 t157 t158 t159 t160 t161 t162 t163 t164 : Value) (Q : Exit → Act → World → Prop)
    (hK : ∀ u17 u18 u19 u20 u21 u22 u23 u24 u25 u26 u27 u28 u29 u30 u31 u32 u33 u34 u35 u36 u37 u38 u39 u40 u41 u42 u43 u44 u45 u46 u47 u48 u49 : Value, Q .normal { tmps := #[t0, t1, .pointer (some ⟨x, 0, none⟩), .pointer (some ⟨x + 1, 0, none⟩), t4, t5, t6, .bool (headB p q), t8, t9, t10, t11, t12, t13, t14, t15, t16, u17, u18, u19, u20, u21, u22, u23, u24, u25, u26, u27, u28, u29, u30, u31, u32, u33, u34, u35, u36, u37, u38, u39, u40, u41, u42, u43, u44, u45, u46, u47, u48, u49, t50, t51, t52, t53, t54, t55, t56, t57, t58, t59, t60, t61, t62, t63, t64, t65, t66, t67, t68, t69, t70, t71, t72, t73, t74, t75, t76, t77, t78, t79, t80, t81, t82, t83, t84, t85, t86, t87, t88, t89, t90, t91, t92, t93, t94, t95, t96, t97, t98, t99, t100, t101, t102, t103, t104, t105, t106, t107, t108, t109, t110, t111, t112, t113, t114, t115, t116, t117, t118, t119, t120, t121, t122, t123, t124, t125, t126, t127, t128, t129, t130, t131, t132, t133, t134, t135, t136, t137, t138, t139, t140, t141, t142, t143, t144, t145, t146, t147, t148, t149, t150, t151, t152, t153, t154, t155, t156, t157, t158, t159, t160, t161, t162, t163, t164], defers := [] } w) :
    Code.wp Try.prog (fstS (sndS (sndS (bodyOf Try.f54)))) Q { tmps := #[t0, t1, .pointer (some ⟨x, 0, none⟩), .pointer (some ⟨x + 1, 0, none⟩), t4, t5, t6, t7, t8, t9, t10, t11, t12, t13, t14, t15, t16, t17, t18, t19, t20, t21, t22, t23, t24, t25, t26, t27, t28, t29, t30, t31, t32, t33, t34, t35, t36, t37, t38, t39, t40, t41, t42, t43, t44, t45, t46, t47, t48, t49, t50, t51, t52, t53, t54, t55, t56, t57, t58, t59, t60, t61, t62, t63, t64, t65, t66, t67, t68, t69, t70, t71, t72, t73, t74, t75, t76, t77, t78, t79, t80, t81, t82, t83, t84, t85, t86, t87, t88, t89, t90, t91, t92, t93, t94, t95, t96, t97, t98, t99, t100, t101, t102, t103, t104, t105, t106, t107, t108, t109, t110, t111, t112, t113, t114, t115, t116, t117, t118, t119, t120, t121, t122, t123, t124, t125, t126, t127, t128, t129, t130, t131, t132, t133, t134, t135, t136, t137, t138, t139, t140, t141, t142, t143, t144, t145, t146, t147, t148, t149, t150, t151, t152, t153, t154, t155, t156, t157, t158, t159, t160, t161, t162, t163, t164], defers := [] } w := by
  have BX := Lib.hid hx
  have BY := Lib.hid hy
  have q4 := eql4
  have q8 := eql8
  clear hx hy
  dsimp only [bodyOf, Try.f54, Option.getD_some, sndS, fstS]
  have c0 := BX.out.2 0 _ rfl
  have d0 := BY.out.2 0 _ rfl
  have c1 := BX.out.2 1 _ rfl
  have d1 := BY.out.2 1 _ rfl
  have c2 := BX.out.2 2 _ rfl
  have d2 := BY.out.2 2 _ rfl
  have c3 := BX.out.2 3 _ rfl
  have d3 := BY.out.2 3 _ rfl
  have c4 := BX.out.2 4 _ rfl
  have d4 := BY.out.2 4 _ rfl
  by_cases h0 : decide (p.kind = q.kind) = true
  · have z0 : (p.kind == q.kind) = true := beq_iff_eq.2 (of_decide_eq_true h0)
    have HE0 := Lib.hid h0
    clear h0
    by_cases h1 : decide (p.client = q.client) = true
    · have z1 : (p.client == q.client) = true := beq_iff_eq.2 (of_decide_eq_true h1)
      have HE1 := Lib.hid h1
      clear h1
      by_cases h2 : decide (p.epoch = q.epoch) = true
      · have z2 : (p.epoch == q.epoch) = true := beq_iff_eq.2 (of_decide_eq_true h2)
        have HE2 := Lib.hid h2
        clear h2
        by_cases h3 : decide (p.seq = q.seq) = true
        · have z3 : (p.seq == q.seq) = true := beq_iff_eq.2 (of_decide_eq_true h3)
          have HE3 := Lib.hid h3
          clear h3
          by_cases h4 : decide (p.op = q.op) = true
          · have z4 : (p.op == q.op) = true := beq_iff_eq.2 (of_decide_eq_true h4)
            have HE4 := Lib.hid h4
            clear h4
            go_wp2_with fail
            have e : headB p q = true := by unfold headB; rw [HE0.out, HE1.out, HE2.out, HE3.out, HE4.out]; rfl
            rw [e] at hK
            exact hK _ _ _ _ _ _ _ _ _ _ _ _ _ _ _ _ _ _ _ _ _ _ _ _ _ _ _ _ _ _ _ _ _
          · have z4 : (p.op == q.op) = false := beq_eq_false_iff_ne.2 (fun e => h4 (decide_eq_true e))
            have HE4 := Lib.hid (eq_false_of_ne_true h4)
            clear h4
            go_wp2_with fail
            have e : headB p q = false := by unfold headB; rw [HE0.out, HE1.out, HE2.out, HE3.out, HE4.out]; rfl
            rw [e] at hK
            exact hK _ _ _ _ _ _ _ _ _ _ _ _ _ _ _ _ _ _ _ _ _ _ _ _ _ _ _ _ _ _ _ _ _
        · have z3 : (p.seq == q.seq) = false := beq_eq_false_iff_ne.2 (fun e => h3 (decide_eq_true e))
          have HE3 := Lib.hid (eq_false_of_ne_true h3)
          clear h3
          go_wp2_with fail
          have e : headB p q = false := by unfold headB; rw [HE0.out, HE1.out, HE2.out, HE3.out]; rfl
          rw [e] at hK
          exact hK _ _ _ _ _ _ _ _ _ _ _ _ _ _ _ _ _ _ _ _ _ _ _ _ _ _ _ _ _ _ _ _ _
      · have z2 : (p.epoch == q.epoch) = false := beq_eq_false_iff_ne.2 (fun e => h2 (decide_eq_true e))
        have HE2 := Lib.hid (eq_false_of_ne_true h2)
        clear h2
        go_wp2_with fail
        have e : headB p q = false := by unfold headB; rw [HE0.out, HE1.out, HE2.out]; rfl
        rw [e] at hK
        exact hK _ _ _ _ _ _ _ _ _ _ _ _ _ _ _ _ _ _ _ _ _ _ _ _ _ _ _ _ _ _ _ _ _
    · have z1 : (p.client == q.client) = false := beq_eq_false_iff_ne.2 (fun e => h1 (decide_eq_true e))
      have HE1 := Lib.hid (eq_false_of_ne_true h1)
      clear h1
      go_wp2_with fail
      have e : headB p q = false := by unfold headB; rw [HE0.out, HE1.out]; rfl
      rw [e] at hK
      exact hK _ _ _ _ _ _ _ _ _ _ _ _ _ _ _ _ _ _ _ _ _ _ _ _ _ _ _ _ _ _ _ _ _
  · have z0 : (p.kind == q.kind) = false := beq_eq_false_iff_ne.2 (fun e => h0 (decide_eq_true e))
    have HE0 := Lib.hid (eq_false_of_ne_true h0)
    clear h0
    go_wp2_with fail
    have e : headB p q = false := by unfold headB; rw [HE0.out]; rfl
    rw [e] at hK
    exact hK _ _ _ _ _ _ _ _ _ _ _ _ _ _ _ _ _ _ _ _ _ _ _ _ _ _ _ _ _ _ _ _ _

set_option maxHeartbeats 8000000 in
set_option maxRecDepth 8000 in
theorem ws_verbsB {w : World} {x : Nat} (p q : PK) (nv nv' : Value) (hx : Blk w x (p.cells nv)) (hy : Blk w (x + 1) (q.cells nv')) (t0 t1 t4 t5 t6 t7 t8 t9 t10 t11 t12 t13 t14 t15 t16 t17 t18 t19 t20 t21 t22 t23 t24 t25 t26 t27 t28 t29 t30 t31 t32 t33 t34 t35 t36 t37 t38 t39 t40 t41 t42 t43 t44 t45 t46 t47 t48 t49 t50 t51 t52 t53 t54 t55 t56 t57 t58 t59 t60 t61 t62 t63 t64 t65 t66 t67 t68 t69 t70 t71 t72 t73 t74 t75 t76 t77 t78 t79 t80 t81 t82 t83 t84 t85 t86 t87 t88 t89 t90 t91 t92 t93 t94 t95 t96 t97 t98 t99 t100 t101 t102 t103 t104 t105 t106 t107 t108 t109 t110 t111 t112 t113 t114 t115 t116 t117 t118 t119 t120 t121 t122 t123 t124 t125 t126 t127 t128 t129 t130 t131 t132 t133 t134 t135 t136 t137 t138 t139 t140 t141 t142 t143 t144 t145 t146 t147 t148 t149 t150 t151 t152 t153 t154 t155 t156 t157 t158 t159 t160 t161 t162 t163 t164 : Value) (Q : Exit → Act → World → Prop)
    (hK : ∀ u50 u51 u52 u53 u54 u55 u56 u57 u58 u59 u60 u61 u62 u63 u64 u65 u66 u67 u68 u69 u70 u71 u72 u73 u74 u75 u76 u77 u78 u79 u80 u81 u82 : Value, Q .normal { tmps := #[t0, t1, .pointer (some ⟨x, 0, none⟩), .pointer (some ⟨x + 1, 0, none⟩), t4, t5, t6, t7, .bool (verbsB p q), t9, t10, t11, t12, t13, t14, t15, t16, t17, t18, t19, t20, t21, t22, t23, t24, t25, t26, t27, t28, t29, t30, t31, t32, t33, t34, t35, t36, t37, t38, t39, t40, t41, t42, t43, t44, t45, t46, t47, t48, t49, u50, u51, u52, u53, u54, u55, u56, u57, u58, u59, u60, u61, u62, u63, u64, u65, u66, u67, u68, u69, u70, u71, u72, u73, u74, u75, u76, u77, u78, u79, u80, u81, u82, t83, t84, t85, t86, t87, t88, t89, t90, t91, t92, t93, t94, t95, t96, t97, t98, t99, t100, t101, t102, t103, t104, t105, t106, t107, t108, t109, t110, t111, t112, t113, t114, t115, t116, t117, t118, t119, t120, t121, t122, t123, t124, t125, t126, t127, t128, t129, t130, t131, t132, t133, t134, t135, t136, t137, t138, t139, t140, t141, t142, t143, t144, t145, t146, t147, t148, t149, t150, t151, t152, t153, t154, t155, t156, t157, t158, t159, t160, t161, t162, t163, t164], defers := [] } w) :
    Code.wp Try.prog (fstS (sndS (sndS (sndS (bodyOf Try.f54))))) Q { tmps := #[t0, t1, .pointer (some ⟨x, 0, none⟩), .pointer (some ⟨x + 1, 0, none⟩), t4, t5, t6, t7, t8, t9, t10, t11, t12, t13, t14, t15, t16, t17, t18, t19, t20, t21, t22, t23, t24, t25, t26, t27, t28, t29, t30, t31, t32, t33, t34, t35, t36, t37, t38, t39, t40, t41, t42, t43, t44, t45, t46, t47, t48, t49, t50, t51, t52, t53, t54, t55, t56, t57, t58, t59, t60, t61, t62, t63, t64, t65, t66, t67, t68, t69, t70, t71, t72, t73, t74, t75, t76, t77, t78, t79, t80, t81, t82, t83, t84, t85, t86, t87, t88, t89, t90, t91, t92, t93, t94, t95, t96, t97, t98, t99, t100, t101, t102, t103, t104, t105, t106, t107, t108, t109, t110, t111, t112, t113, t114, t115, t116, t117, t118, t119, t120, t121, t122, t123, t124, t125, t126, t127, t128, t129, t130, t131, t132, t133, t134, t135, t136, t137, t138, t139, t140, t141, t142, t143, t144, t145, t146, t147, t148, t149, t150, t151, t152, t153, t154, t155, t156, t157, t158, t159, t160, t161, t162, t163, t164], defers := [] } w := by
  have BX := Lib.hid hx
  have BY := Lib.hid hy
  have q4 := eql4
  have q8 := eql8
  clear hx hy
  dsimp only [bodyOf, Try.f54, Option.getD_some, sndS, fstS]
  have c5 := BX.out.2 5 _ rfl
  have d5 := BY.out.2 5 _ rfl
  have c6 := BX.out.2 6 _ rfl
  have d6 := BY.out.2 6 _ rfl
  have c7 := BX.out.2 7 _ rfl
  have d7 := BY.out.2 7 _ rfl
  have c8 := BX.out.2 8 _ rfl
  have d8 := BY.out.2 8 _ rfl
  have c9 := BX.out.2 9 _ rfl
  have d9 := BY.out.2 9 _ rfl
  by_cases h0 : decide (p.at_ = q.at_) = true
  · have z0 : (p.at_ == q.at_) = true := beq_iff_eq.2 (of_decide_eq_true h0)
    have HE0 := Lib.hid h0
    clear h0
    by_cases h1 : decide (p.n = q.n) = true
    · have z1 : (p.n == q.n) = true := beq_iff_eq.2 (of_decide_eq_true h1)
      have HE1 := Lib.hid h1
      clear h1
      by_cases h2 : decide (p.data = q.data) = true
      · have z2 : (p.data.toList == q.data.toList) = true := by rw [ba_beq]; exact h2
        have HE2 := Lib.hid h2
        clear h2
        by_cases h3 : decide (p.old = q.old) = true
        · have z3 : (p.old == q.old) = true := beq_iff_eq.2 (of_decide_eq_true h3)
          have HE3 := Lib.hid h3
          clear h3
          by_cases h4 : decide (p.new = q.new) = true
          · have z4 : (p.new == q.new) = true := beq_iff_eq.2 (of_decide_eq_true h4)
            have HE4 := Lib.hid h4
            clear h4
            go_wp2_with fail
            have e : verbsB p q = true := by unfold verbsB; rw [HE0.out, HE1.out, HE2.out, HE3.out, HE4.out]; rfl
            rw [e] at hK
            exact hK _ _ _ _ _ _ _ _ _ _ _ _ _ _ _ _ _ _ _ _ _ _ _ _ _ _ _ _ _ _ _ _ _
          · have z4 : (p.new == q.new) = false := beq_eq_false_iff_ne.2 (fun e => h4 (decide_eq_true e))
            have HE4 := Lib.hid (eq_false_of_ne_true h4)
            clear h4
            go_wp2_with fail
            have e : verbsB p q = false := by unfold verbsB; rw [HE0.out, HE1.out, HE2.out, HE3.out, HE4.out]; rfl
            rw [e] at hK
            exact hK _ _ _ _ _ _ _ _ _ _ _ _ _ _ _ _ _ _ _ _ _ _ _ _ _ _ _ _ _ _ _ _ _
        · have z3 : (p.old == q.old) = false := beq_eq_false_iff_ne.2 (fun e => h3 (decide_eq_true e))
          have HE3 := Lib.hid (eq_false_of_ne_true h3)
          clear h3
          go_wp2_with fail
          have e : verbsB p q = false := by unfold verbsB; rw [HE0.out, HE1.out, HE2.out, HE3.out]; rfl
          rw [e] at hK
          exact hK _ _ _ _ _ _ _ _ _ _ _ _ _ _ _ _ _ _ _ _ _ _ _ _ _ _ _ _ _ _ _ _ _
      · have z2 : (p.data.toList == q.data.toList) = false := by rw [ba_beq]; exact eq_false_of_ne_true h2
        have HE2 := Lib.hid (eq_false_of_ne_true h2)
        clear h2
        go_wp2_with fail
        have e : verbsB p q = false := by unfold verbsB; rw [HE0.out, HE1.out, HE2.out]; rfl
        rw [e] at hK
        exact hK _ _ _ _ _ _ _ _ _ _ _ _ _ _ _ _ _ _ _ _ _ _ _ _ _ _ _ _ _ _ _ _ _
    · have z1 : (p.n == q.n) = false := beq_eq_false_iff_ne.2 (fun e => h1 (decide_eq_true e))
      have HE1 := Lib.hid (eq_false_of_ne_true h1)
      clear h1
      go_wp2_with fail
      have e : verbsB p q = false := by unfold verbsB; rw [HE0.out, HE1.out]; rfl
      rw [e] at hK
      exact hK _ _ _ _ _ _ _ _ _ _ _ _ _ _ _ _ _ _ _ _ _ _ _ _ _ _ _ _ _ _ _ _ _
  · have z0 : (p.at_ == q.at_) = false := beq_eq_false_iff_ne.2 (fun e => h0 (decide_eq_true e))
    have HE0 := Lib.hid (eq_false_of_ne_true h0)
    clear h0
    go_wp2_with fail
    have e : verbsB p q = false := by unfold verbsB; rw [HE0.out]; rfl
    rw [e] at hK
    exact hK _ _ _ _ _ _ _ _ _ _ _ _ _ _ _ _ _ _ _ _ _ _ _ _ _ _ _ _ _ _ _ _ _

set_option maxHeartbeats 8000000 in
set_option maxRecDepth 8000 in
theorem ws_rpcsB {w : World} {x : Nat} (p q : PK) (nv nv' : Value) (hx : Blk w x (p.cells nv)) (hy : Blk w (x + 1) (q.cells nv')) (t0 t1 t4 t5 t6 t7 t8 t9 t10 t11 t12 t13 t14 t15 t16 t17 t18 t19 t20 t21 t22 t23 t24 t25 t26 t27 t28 t29 t30 t31 t32 t33 t34 t35 t36 t37 t38 t39 t40 t41 t42 t43 t44 t45 t46 t47 t48 t49 t50 t51 t52 t53 t54 t55 t56 t57 t58 t59 t60 t61 t62 t63 t64 t65 t66 t67 t68 t69 t70 t71 t72 t73 t74 t75 t76 t77 t78 t79 t80 t81 t82 t83 t84 t85 t86 t87 t88 t89 t90 t91 t92 t93 t94 t95 t96 t97 t98 t99 t100 t101 t102 t103 t104 t105 t106 t107 t108 t109 t110 t111 t112 t113 t114 t115 t116 t117 t118 t119 t120 t121 t122 t123 t124 t125 t126 t127 t128 t129 t130 t131 t132 t133 t134 t135 t136 t137 t138 t139 t140 t141 t142 t143 t144 t145 t146 t147 t148 t149 t150 t151 t152 t153 t154 t155 t156 t157 t158 t159 t160 t161 t162 t163 t164 : Value) (Q : Exit → Act → World → Prop)
    (hK : ∀ u83 u84 u85 u86 u87 u88 u89 u90 u91 u92 u93 u94 u95 u96 u97 u98 u99 u100 u101 u102 u103 u104 u105 u106 u107 u108 u109 u110 u111 u112 u113 u114 u115 : Value, Q .normal { tmps := #[t0, t1, .pointer (some ⟨x, 0, none⟩), .pointer (some ⟨x + 1, 0, none⟩), t4, t5, t6, t7, t8, .bool (rpcsB p q), t10, t11, t12, t13, t14, t15, t16, t17, t18, t19, t20, t21, t22, t23, t24, t25, t26, t27, t28, t29, t30, t31, t32, t33, t34, t35, t36, t37, t38, t39, t40, t41, t42, t43, t44, t45, t46, t47, t48, t49, t50, t51, t52, t53, t54, t55, t56, t57, t58, t59, t60, t61, t62, t63, t64, t65, t66, t67, t68, t69, t70, t71, t72, t73, t74, t75, t76, t77, t78, t79, t80, t81, t82, u83, u84, u85, u86, u87, u88, u89, u90, u91, u92, u93, u94, u95, u96, u97, u98, u99, u100, u101, u102, u103, u104, u105, u106, u107, u108, u109, u110, u111, u112, u113, u114, u115, t116, t117, t118, t119, t120, t121, t122, t123, t124, t125, t126, t127, t128, t129, t130, t131, t132, t133, t134, t135, t136, t137, t138, t139, t140, t141, t142, t143, t144, t145, t146, t147, t148, t149, t150, t151, t152, t153, t154, t155, t156, t157, t158, t159, t160, t161, t162, t163, t164], defers := [] } w) :
    Code.wp Try.prog (fstS (sndS (sndS (sndS (sndS (bodyOf Try.f54)))))) Q { tmps := #[t0, t1, .pointer (some ⟨x, 0, none⟩), .pointer (some ⟨x + 1, 0, none⟩), t4, t5, t6, t7, t8, t9, t10, t11, t12, t13, t14, t15, t16, t17, t18, t19, t20, t21, t22, t23, t24, t25, t26, t27, t28, t29, t30, t31, t32, t33, t34, t35, t36, t37, t38, t39, t40, t41, t42, t43, t44, t45, t46, t47, t48, t49, t50, t51, t52, t53, t54, t55, t56, t57, t58, t59, t60, t61, t62, t63, t64, t65, t66, t67, t68, t69, t70, t71, t72, t73, t74, t75, t76, t77, t78, t79, t80, t81, t82, t83, t84, t85, t86, t87, t88, t89, t90, t91, t92, t93, t94, t95, t96, t97, t98, t99, t100, t101, t102, t103, t104, t105, t106, t107, t108, t109, t110, t111, t112, t113, t114, t115, t116, t117, t118, t119, t120, t121, t122, t123, t124, t125, t126, t127, t128, t129, t130, t131, t132, t133, t134, t135, t136, t137, t138, t139, t140, t141, t142, t143, t144, t145, t146, t147, t148, t149, t150, t151, t152, t153, t154, t155, t156, t157, t158, t159, t160, t161, t162, t163, t164], defers := [] } w := by
  have BX := Lib.hid hx
  have BY := Lib.hid hy
  have q4 := eql4
  have q8 := eql8
  clear hx hy
  dsimp only [bodyOf, Try.f54, Option.getD_some, sndS, fstS]
  have c10 := BX.out.2 10 _ rfl
  have d10 := BY.out.2 10 _ rfl
  have c11 := BX.out.2 11 _ rfl
  have d11 := BY.out.2 11 _ rfl
  have c12 := BX.out.2 12 _ rfl
  have d12 := BY.out.2 12 _ rfl
  have c13 := BX.out.2 13 _ rfl
  have d13 := BY.out.2 13 _ rfl
  have c14 := BX.out.2 14 _ rfl
  have d14 := BY.out.2 14 _ rfl
  have c15 := BX.out.2 15 _ rfl
  have d15 := BY.out.2 15 _ rfl
  have c16 := BX.out.2 16 _ rfl
  have d16 := BY.out.2 16 _ rfl
  have c17 := BX.out.2 17 _ rfl
  have d17 := BY.out.2 17 _ rfl
  have c18 := BX.out.2 18 _ rfl
  have d18 := BY.out.2 18 _ rfl
  have c19 := BX.out.2 19 _ rfl
  have d19 := BY.out.2 19 _ rfl
  have c27 := BX.out.2 27 _ rfl
  have d27 := BY.out.2 27 _ rfl
  have c28 := BX.out.2 28 _ rfl
  have d28 := BY.out.2 28 _ rfl
  have c29 := BX.out.2 29 _ rfl
  have d29 := BY.out.2 29 _ rfl
  have c30 := BX.out.2 30 _ rfl
  have d30 := BY.out.2 30 _ rfl
  have c31 := BX.out.2 31 _ rfl
  have d31 := BY.out.2 31 _ rfl
  have c32 := BX.out.2 32 _ rfl
  have d32 := BY.out.2 32 _ rfl
  have c33 := BX.out.2 33 _ rfl
  have d33 := BY.out.2 33 _ rfl
  have c34 := BX.out.2 34 _ rfl
  have d34 := BY.out.2 34 _ rfl
  have c35 := BX.out.2 35 _ rfl
  have d35 := BY.out.2 35 _ rfl
  have c36 := BX.out.2 36 _ rfl
  have d36 := BY.out.2 36 _ rfl
  have c37 := BX.out.2 37 _ rfl
  have d37 := BY.out.2 37 _ rfl
  have c38 := BX.out.2 38 _ rfl
  have d38 := BY.out.2 38 _ rfl
  have c39 := BX.out.2 39 _ rfl
  have d39 := BY.out.2 39 _ rfl
  have c40 := BX.out.2 40 _ rfl
  have d40 := BY.out.2 40 _ rfl
  have c41 := BX.out.2 41 _ rfl
  have d41 := BY.out.2 41 _ rfl
  have c42 := BX.out.2 42 _ rfl
  have d42 := BY.out.2 42 _ rfl
  have rr0 : ∀ d w, (Op.equalIn (d + 4) 24 (.agg #[.int .i64 p.ckind, .string p.path, .string p.path2, .int .i64 p.flags, .int .i64 p.cfd, .int .i64 p.coff, .int .i64 p.cn, .string p.cdata]) (.agg #[.int .i64 q.ckind, .string q.path, .string q.path2, .int .i64 q.flags, .int .i64 q.cfd, .int .i64 q.coff, .int .i64 q.cn, .string q.cdata])).run Try.prog w = .ok (callB p q) w := fun d w => callB_run _ w p q
  have rr4 : ∀ d w, (Op.equalIn (d + 4) 34 (.agg #[.int .i64 p.nkind, .int .i64 p.nlinks, .int .i64 p.nsize, .int .i64 p.b0, .int .i64 p.b1, .int .i64 p.b2, .int .i64 p.b3, .int .i64 p.o0, .int .i64 p.o1, .int .i64 p.o2, .int .i64 p.o3, .int .i64 p.o4, .int .i64 p.o5, .int .i64 p.o6, .int .i64 p.o7]) (.agg #[.int .i64 q.nkind, .int .i64 q.nlinks, .int .i64 q.nsize, .int .i64 q.b0, .int .i64 q.b1, .int .i64 q.b2, .int .i64 q.b3, .int .i64 q.o0, .int .i64 q.o1, .int .i64 q.o2, .int .i64 q.o3, .int .i64 q.o4, .int .i64 q.o5, .int .i64 q.o6, .int .i64 q.o7])).run Try.prog w = .ok (nodeB p q) w := fun d w => nodeB_run _ w p q
  by_cases h0 : callB p q = true
  · have z0 : callB p q = true := h0
    have HE0 := Lib.hid h0
    clear h0
    by_cases h1 : decide (p.ino = q.ino) = true
    · have z1 : (p.ino == q.ino) = true := beq_iff_eq.2 (of_decide_eq_true h1)
      have HE1 := Lib.hid h1
      clear h1
      by_cases h2 : decide (p.errno = q.errno) = true
      · have z2 : (p.errno == q.errno) = true := beq_iff_eq.2 (of_decide_eq_true h2)
        have HE2 := Lib.hid h2
        clear h2
        by_cases h3 : decide (p.wrote = q.wrote) = true
        · have z3 : (p.wrote == q.wrote) = true := beq_iff_eq.2 (of_decide_eq_true h3)
          have HE3 := Lib.hid h3
          clear h3
          by_cases h4 : nodeB p q = true
          · have z4 : nodeB p q = true := h4
            have HE4 := Lib.hid h4
            clear h4
            go_wp2_with fail
            have e : rpcsB p q = true := by unfold rpcsB; rw [HE0.out, HE1.out, HE2.out, HE3.out, HE4.out]; rfl
            rw [e] at hK
            exact hK _ _ _ _ _ _ _ _ _ _ _ _ _ _ _ _ _ _ _ _ _ _ _ _ _ _ _ _ _ _ _ _ _
          · have z4 : nodeB p q = false := eq_false_of_ne_true h4
            have HE4 := Lib.hid (eq_false_of_ne_true h4)
            clear h4
            go_wp2_with fail
            have e : rpcsB p q = false := by unfold rpcsB; rw [HE0.out, HE1.out, HE2.out, HE3.out, HE4.out]; rfl
            rw [e] at hK
            exact hK _ _ _ _ _ _ _ _ _ _ _ _ _ _ _ _ _ _ _ _ _ _ _ _ _ _ _ _ _ _ _ _ _
        · have z3 : (p.wrote == q.wrote) = false := beq_eq_false_iff_ne.2 (fun e => h3 (decide_eq_true e))
          have HE3 := Lib.hid (eq_false_of_ne_true h3)
          clear h3
          go_wp2_with fail
          have e : rpcsB p q = false := by unfold rpcsB; rw [HE0.out, HE1.out, HE2.out, HE3.out]; rfl
          rw [e] at hK
          exact hK _ _ _ _ _ _ _ _ _ _ _ _ _ _ _ _ _ _ _ _ _ _ _ _ _ _ _ _ _ _ _ _ _
      · have z2 : (p.errno == q.errno) = false := beq_eq_false_iff_ne.2 (fun e => h2 (decide_eq_true e))
        have HE2 := Lib.hid (eq_false_of_ne_true h2)
        clear h2
        go_wp2_with fail
        have e : rpcsB p q = false := by unfold rpcsB; rw [HE0.out, HE1.out, HE2.out]; rfl
        rw [e] at hK
        exact hK _ _ _ _ _ _ _ _ _ _ _ _ _ _ _ _ _ _ _ _ _ _ _ _ _ _ _ _ _ _ _ _ _
    · have z1 : (p.ino == q.ino) = false := beq_eq_false_iff_ne.2 (fun e => h1 (decide_eq_true e))
      have HE1 := Lib.hid (eq_false_of_ne_true h1)
      clear h1
      go_wp2_with fail
      have e : rpcsB p q = false := by unfold rpcsB; rw [HE0.out, HE1.out]; rfl
      rw [e] at hK
      exact hK _ _ _ _ _ _ _ _ _ _ _ _ _ _ _ _ _ _ _ _ _ _ _ _ _ _ _ _ _ _ _ _ _
  · have z0 : callB p q = false := eq_false_of_ne_true h0
    have HE0 := Lib.hid (eq_false_of_ne_true h0)
    clear h0
    go_wp2_with fail
    have e : rpcsB p q = false := by unfold rpcsB; rw [HE0.out]; rfl
    rw [e] at hK
    exact hK _ _ _ _ _ _ _ _ _ _ _ _ _ _ _ _ _ _ _ _ _ _ _ _ _ _ _ _ _ _ _ _ _

set_option maxHeartbeats 8000000 in
set_option maxRecDepth 8000 in
theorem ws_replyB {w : World} {x : Nat} (p q : PK) (nv nv' : Value) (hx : Blk w x (p.cells nv)) (hy : Blk w (x + 1) (q.cells nv')) (t0 t1 t4 t5 t6 t7 t8 t9 t10 t11 t12 t13 t14 t15 t16 t17 t18 t19 t20 t21 t22 t23 t24 t25 t26 t27 t28 t29 t30 t31 t32 t33 t34 t35 t36 t37 t38 t39 t40 t41 t42 t43 t44 t45 t46 t47 t48 t49 t50 t51 t52 t53 t54 t55 t56 t57 t58 t59 t60 t61 t62 t63 t64 t65 t66 t67 t68 t69 t70 t71 t72 t73 t74 t75 t76 t77 t78 t79 t80 t81 t82 t83 t84 t85 t86 t87 t88 t89 t90 t91 t92 t93 t94 t95 t96 t97 t98 t99 t100 t101 t102 t103 t104 t105 t106 t107 t108 t109 t110 t111 t112 t113 t114 t115 t116 t117 t118 t119 t120 t121 t122 t123 t124 t125 t126 t127 t128 t129 t130 t131 t132 t133 t134 t135 t136 t137 t138 t139 t140 t141 t142 t143 t144 t145 t146 t147 t148 t149 t150 t151 t152 t153 t154 t155 t156 t157 t158 t159 t160 t161 t162 t163 t164 : Value) (Q : Exit → Act → World → Prop)
    (hK : ∀ u116 u117 u118 u119 u120 u121 u122 u123 u124 u125 u126 u127 u128 u129 u130 u131 u132 u133 u134 u135 u136 u137 u138 u139 u140 u141 u142 u143 u144 u145 u146 u147 u148 u149 : Value, Q .normal { tmps := #[t0, t1, .pointer (some ⟨x, 0, none⟩), .pointer (some ⟨x + 1, 0, none⟩), t4, t5, t6, t7, t8, t9, .bool (replyB p q), t11, t12, t13, t14, t15, t16, t17, t18, t19, t20, t21, t22, t23, t24, t25, t26, t27, t28, t29, t30, t31, t32, t33, t34, t35, t36, t37, t38, t39, t40, t41, t42, t43, t44, t45, t46, t47, t48, t49, t50, t51, t52, t53, t54, t55, t56, t57, t58, t59, t60, t61, t62, t63, t64, t65, t66, t67, t68, t69, t70, t71, t72, t73, t74, t75, t76, t77, t78, t79, t80, t81, t82, t83, t84, t85, t86, t87, t88, t89, t90, t91, t92, t93, t94, t95, t96, t97, t98, t99, t100, t101, t102, t103, t104, t105, t106, t107, t108, t109, t110, t111, t112, t113, t114, t115, u116, u117, u118, u119, u120, u121, u122, u123, u124, u125, u126, u127, u128, u129, u130, u131, u132, u133, u134, u135, u136, u137, u138, u139, u140, u141, u142, u143, u144, u145, u146, u147, u148, u149, t150, t151, t152, t153, t154, t155, t156, t157, t158, t159, t160, t161, t162, t163, t164], defers := [] } w) :
    Code.wp Try.prog (fstS (sndS (sndS (sndS (sndS (sndS (bodyOf Try.f54))))))) Q { tmps := #[t0, t1, .pointer (some ⟨x, 0, none⟩), .pointer (some ⟨x + 1, 0, none⟩), t4, t5, t6, t7, t8, t9, t10, t11, t12, t13, t14, t15, t16, t17, t18, t19, t20, t21, t22, t23, t24, t25, t26, t27, t28, t29, t30, t31, t32, t33, t34, t35, t36, t37, t38, t39, t40, t41, t42, t43, t44, t45, t46, t47, t48, t49, t50, t51, t52, t53, t54, t55, t56, t57, t58, t59, t60, t61, t62, t63, t64, t65, t66, t67, t68, t69, t70, t71, t72, t73, t74, t75, t76, t77, t78, t79, t80, t81, t82, t83, t84, t85, t86, t87, t88, t89, t90, t91, t92, t93, t94, t95, t96, t97, t98, t99, t100, t101, t102, t103, t104, t105, t106, t107, t108, t109, t110, t111, t112, t113, t114, t115, t116, t117, t118, t119, t120, t121, t122, t123, t124, t125, t126, t127, t128, t129, t130, t131, t132, t133, t134, t135, t136, t137, t138, t139, t140, t141, t142, t143, t144, t145, t146, t147, t148, t149, t150, t151, t152, t153, t154, t155, t156, t157, t158, t159, t160, t161, t162, t163, t164], defers := [] } w := by
  have BX := Lib.hid hx
  have BY := Lib.hid hy
  have q4 := eql4
  have q8 := eql8
  clear hx hy
  dsimp only [bodyOf, Try.f54, Option.getD_some, sndS, fstS]
  have c20 := BX.out.2 20 _ rfl
  have d20 := BY.out.2 20 _ rfl
  have c21 := BX.out.2 21 _ rfl
  have d21 := BY.out.2 21 _ rfl
  have c22 := BX.out.2 22 _ rfl
  have d22 := BY.out.2 22 _ rfl
  have c24 := BX.out.2 24 _ rfl
  have d24 := BY.out.2 24 _ rfl
  have c25 := BX.out.2 25 _ rfl
  have d25 := BY.out.2 25 _ rfl
  have c26 := BX.out.2 26 _ rfl
  have d26 := BY.out.2 26 _ rfl
  have rr3 : ∀ d w, (Op.equalIn (d + 4) 28 (.agg #[.int .i64 p.ikind, .int .i64 p.ilinks, .int .i64 p.isize]) (.agg #[.int .i64 q.ikind, .int .i64 q.ilinks, .int .i64 q.isize])).run Try.prog w = .ok (infoB p q) w := fun d w => infoB_run _ w p q
  by_cases h0 : decide (p.rerrno = q.rerrno) = true
  · have z0 : (p.rerrno == q.rerrno) = true := beq_iff_eq.2 (of_decide_eq_true h0)
    have HE0 := Lib.hid h0
    clear h0
    by_cases h1 : decide (p.rfd = q.rfd) = true
    · have z1 : (p.rfd == q.rfd) = true := beq_iff_eq.2 (of_decide_eq_true h1)
      have HE1 := Lib.hid h1
      clear h1
      by_cases h2 : decide (p.rdata = q.rdata) = true
      · have z2 : (p.rdata.toList == q.rdata.toList) = true := by rw [ba_beq]; exact h2
        have HE2 := Lib.hid h2
        clear h2
        by_cases h3 : infoB p q = true
        · have z3 : infoB p q = true := h3
          have HE3 := Lib.hid h3
          clear h3
          go_wp2_with fail
          have e : replyB p q = true := by unfold replyB; rw [HE0.out, HE1.out, HE2.out, HE3.out]; rfl
          rw [e] at hK
          exact hK _ _ _ _ _ _ _ _ _ _ _ _ _ _ _ _ _ _ _ _ _ _ _ _ _ _ _ _ _ _ _ _ _ _
        · have z3 : infoB p q = false := eq_false_of_ne_true h3
          have HE3 := Lib.hid (eq_false_of_ne_true h3)
          clear h3
          go_wp2_with fail
          have e : replyB p q = false := by unfold replyB; rw [HE0.out, HE1.out, HE2.out, HE3.out]; rfl
          rw [e] at hK
          exact hK _ _ _ _ _ _ _ _ _ _ _ _ _ _ _ _ _ _ _ _ _ _ _ _ _ _ _ _ _ _ _ _ _ _
      · have z2 : (p.rdata.toList == q.rdata.toList) = false := by rw [ba_beq]; exact eq_false_of_ne_true h2
        have HE2 := Lib.hid (eq_false_of_ne_true h2)
        clear h2
        go_wp2_with fail
        have e : replyB p q = false := by unfold replyB; rw [HE0.out, HE1.out, HE2.out]; rfl
        rw [e] at hK
        exact hK _ _ _ _ _ _ _ _ _ _ _ _ _ _ _ _ _ _ _ _ _ _ _ _ _ _ _ _ _ _ _ _ _ _
    · have z1 : (p.rfd == q.rfd) = false := beq_eq_false_iff_ne.2 (fun e => h1 (decide_eq_true e))
      have HE1 := Lib.hid (eq_false_of_ne_true h1)
      clear h1
      go_wp2_with fail
      have e : replyB p q = false := by unfold replyB; rw [HE0.out, HE1.out]; rfl
      rw [e] at hK
      exact hK _ _ _ _ _ _ _ _ _ _ _ _ _ _ _ _ _ _ _ _ _ _ _ _ _ _ _ _ _ _ _ _ _ _
  · have z0 : (p.rerrno == q.rerrno) = false := beq_eq_false_iff_ne.2 (fun e => h0 (decide_eq_true e))
    have HE0 := Lib.hid (eq_false_of_ne_true h0)
    clear h0
    go_wp2_with fail
    have e : replyB p q = false := by unfold replyB; rw [HE0.out]; rfl
    rw [e] at hK
    exact hK _ _ _ _ _ _ _ _ _ _ _ _ _ _ _ _ _ _ _ _ _ _ _ _ _ _ _ _ _ _ _ _ _ _

theorem RS.grow {w w' : World} {A : Option Addr} {n : Nat} {l : List ByteArray} (h : RS w A n l) (g : Grow w w') : RS w' A n l := ⟨h.1, (Rd.below h.2 g).more g.size⟩
theorem same_all (p q : PK) : (headB p q && verbsB p q && rpcsB p q && replyB p q && decide (p.names = q.names)) = decide (p = q) := by
  unfold headB verbsB rpcsB replyB callB nodeB infoB
  rw [Bool.eq_iff_iff]
  cases p
  cases q
  simp only [Bool.and_eq_true, decide_eq_true_iff, PK.mk.injEq]
  constructor
  · rintro ⟨⟨⟨⟨⟨⟨⟨⟨a1, a2⟩, a3⟩, a4⟩, a5⟩, ⟨⟨⟨b1, b2⟩, b3⟩, b4⟩, b5⟩, ⟨⟨⟨c1, c2⟩, c3⟩, c4⟩, c5⟩, ⟨⟨d1, d2⟩, d3⟩, d4⟩, e1⟩
    simp_all
  · intro h
    simp_all

set_option maxHeartbeats 8000000 in
set_option maxRecDepth 8000 in
theorem w_same {w : World} (p q : PK) {A A' : Option Addr} {c c' : Nat} (hp : RS w A p.names.length p.names) (hq : RS w A' q.names.length q.names) (hp3 : p.names.length ≤ 1048576) (hq3 : q.names.length ≤ 1048576) :
    Calls Try.prog 54 #[.agg #[.int .i64 p.kind, .int .i64 p.client, .int .i64 p.epoch, .int .i64 p.seq, .int .i64 p.op, .int .i64 p.at_, .int .i64 p.n, .string p.data, .int .i64 p.old, .int .i64 p.new, .int .i64 p.ckind, .string p.path, .string p.path2, .int .i64 p.flags, .int .i64 p.cfd, .int .i64 p.coff, .int .i64 p.cn, .string p.cdata, .int .i64 p.ino, .int .i64 p.errno, .int .i64 p.rerrno, .int .i64 p.rfd, .string p.rdata, .slice A p.names.length c, .int .i64 p.ikind, .int .i64 p.ilinks, .int .i64 p.isize, .int .i64 p.wrote, .int .i64 p.nkind, .int .i64 p.nlinks, .int .i64 p.nsize, .int .i64 p.b0, .int .i64 p.b1, .int .i64 p.b2, .int .i64 p.b3, .int .i64 p.o0, .int .i64 p.o1, .int .i64 p.o2, .int .i64 p.o3, .int .i64 p.o4, .int .i64 p.o5, .int .i64 p.o6, .int .i64 p.o7], .agg #[.int .i64 q.kind, .int .i64 q.client, .int .i64 q.epoch, .int .i64 q.seq, .int .i64 q.op, .int .i64 q.at_, .int .i64 q.n, .string q.data, .int .i64 q.old, .int .i64 q.new, .int .i64 q.ckind, .string q.path, .string q.path2, .int .i64 q.flags, .int .i64 q.cfd, .int .i64 q.coff, .int .i64 q.cn, .string q.cdata, .int .i64 q.ino, .int .i64 q.errno, .int .i64 q.rerrno, .int .i64 q.rfd, .string q.rdata, .slice A' q.names.length c', .int .i64 q.ikind, .int .i64 q.ilinks, .int .i64 q.isize, .int .i64 q.wrote, .int .i64 q.nkind, .int .i64 q.nlinks, .int .i64 q.nsize, .int .i64 q.b0, .int .i64 q.b1, .int .i64 q.b2, .int .i64 q.b3, .int .i64 q.o0, .int .i64 q.o1, .int .i64 q.o2, .int .i64 q.o3, .int .i64 q.o4, .int .i64 q.o5, .int .i64 q.o6, .int .i64 q.o7]] w fun e w' => e = .returned (.bool (decide (p = q))) ∧ Grow w w' := by
  obtain ⟨m, hm⟩ : ∃ m, m = p.names.length := ⟨_, rfl⟩
  obtain ⟨m', hm'⟩ : ∃ m, m = q.names.length := ⟨_, rfl⟩
  rw [← hm] at hp hp3 ⊢
  rw [← hm'] at hq hq3 ⊢
  clear hm hm'
  have q4 := eql4
  have q8 := eql8
  go_enter Try.func54, Try.ntmps54
  go_upto_region 1 with (fail)
  have G2 := ((Grow.refl w).alloc (.cells #[.int .i64 p.kind, .int .i64 p.client, .int .i64 p.epoch, .int .i64 p.seq, .int .i64 p.op, .int .i64 p.at_, .int .i64 p.n, .string p.data, .int .i64 p.old, .int .i64 p.new, .int .i64 p.ckind, .string p.path, .string p.path2, .int .i64 p.flags, .int .i64 p.cfd, .int .i64 p.coff, .int .i64 p.cn, .string p.cdata, .int .i64 p.ino, .int .i64 p.errno, .int .i64 p.rerrno, .int .i64 p.rfd, .string p.rdata, .slice A m c, .int .i64 p.ikind, .int .i64 p.ilinks, .int .i64 p.isize, .int .i64 p.wrote, .int .i64 p.nkind, .int .i64 p.nlinks, .int .i64 p.nsize, .int .i64 p.b0, .int .i64 p.b1, .int .i64 p.b2, .int .i64 p.b3, .int .i64 p.o0, .int .i64 p.o1, .int .i64 p.o2, .int .i64 p.o3, .int .i64 p.o4, .int .i64 p.o5, .int .i64 p.o6, .int .i64 p.o7] 36)).alloc (.cells #[.int .i64 q.kind, .int .i64 q.client, .int .i64 q.epoch, .int .i64 q.seq, .int .i64 q.op, .int .i64 q.at_, .int .i64 q.n, .string q.data, .int .i64 q.old, .int .i64 q.new, .int .i64 q.ckind, .string q.path, .string q.path2, .int .i64 q.flags, .int .i64 q.cfd, .int .i64 q.coff, .int .i64 q.cn, .string q.cdata, .int .i64 q.ino, .int .i64 q.errno, .int .i64 q.rerrno, .int .i64 q.rfd, .string q.rdata, .slice A' m' c', .int .i64 q.ikind, .int .i64 q.ilinks, .int .i64 q.isize, .int .i64 q.wrote, .int .i64 q.nkind, .int .i64 q.nlinks, .int .i64 q.nsize, .int .i64 q.b0, .int .i64 q.b1, .int .i64 q.b2, .int .i64 q.b3, .int .i64 q.o0, .int .i64 q.o1, .int .i64 q.o2, .int .i64 q.o3, .int .i64 q.o4, .int .i64 q.o5, .int .i64 q.o6, .int .i64 q.o7] 36)
  have BX := Lib.hid ((Blk.new w 36 (p.cells (.slice A m c)) #[.int .i64 p.kind, .int .i64 p.client, .int .i64 p.epoch, .int .i64 p.seq, .int .i64 p.op, .int .i64 p.at_, .int .i64 p.n, .string p.data, .int .i64 p.old, .int .i64 p.new, .int .i64 p.ckind, .string p.path, .string p.path2, .int .i64 p.flags, .int .i64 p.cfd, .int .i64 p.coff, .int .i64 p.cn, .string p.cdata, .int .i64 p.ino, .int .i64 p.errno, .int .i64 p.rerrno, .int .i64 p.rfd, .string p.rdata, .slice A m c, .int .i64 p.ikind, .int .i64 p.ilinks, .int .i64 p.isize, .int .i64 p.wrote, .int .i64 p.nkind, .int .i64 p.nlinks, .int .i64 p.nsize, .int .i64 p.b0, .int .i64 p.b1, .int .i64 p.b2, .int .i64 p.b3, .int .i64 p.o0, .int .i64 p.o1, .int .i64 p.o2, .int .i64 p.o3, .int .i64 p.o4, .int .i64 p.o5, .int .i64 p.o6, .int .i64 p.o7] (0, 0) rfl).keep ((Grow.refl _).alloc (.cells #[.int .i64 q.kind, .int .i64 q.client, .int .i64 q.epoch, .int .i64 q.seq, .int .i64 q.op, .int .i64 q.at_, .int .i64 q.n, .string q.data, .int .i64 q.old, .int .i64 q.new, .int .i64 q.ckind, .string q.path, .string q.path2, .int .i64 q.flags, .int .i64 q.cfd, .int .i64 q.coff, .int .i64 q.cn, .string q.cdata, .int .i64 q.ino, .int .i64 q.errno, .int .i64 q.rerrno, .int .i64 q.rfd, .string q.rdata, .slice A' m' c', .int .i64 q.ikind, .int .i64 q.ilinks, .int .i64 q.isize, .int .i64 q.wrote, .int .i64 q.nkind, .int .i64 q.nlinks, .int .i64 q.nsize, .int .i64 q.b0, .int .i64 q.b1, .int .i64 q.b2, .int .i64 q.b3, .int .i64 q.o0, .int .i64 q.o1, .int .i64 q.o2, .int .i64 q.o3, .int .i64 q.o4, .int .i64 q.o5, .int .i64 q.o6, .int .i64 q.o7] 36)))
  have BY := Lib.hid (show Blk _ (w.heap.size + 1) _ by
    have := Blk.new (w.alloc (.cells #[.int .i64 p.kind, .int .i64 p.client, .int .i64 p.epoch, .int .i64 p.seq, .int .i64 p.op, .int .i64 p.at_, .int .i64 p.n, .string p.data, .int .i64 p.old, .int .i64 p.new, .int .i64 p.ckind, .string p.path, .string p.path2, .int .i64 p.flags, .int .i64 p.cfd, .int .i64 p.coff, .int .i64 p.cn, .string p.cdata, .int .i64 p.ino, .int .i64 p.errno, .int .i64 p.rerrno, .int .i64 p.rfd, .string p.rdata, .slice A m c, .int .i64 p.ikind, .int .i64 p.ilinks, .int .i64 p.isize, .int .i64 p.wrote, .int .i64 p.nkind, .int .i64 p.nlinks, .int .i64 p.nsize, .int .i64 p.b0, .int .i64 p.b1, .int .i64 p.b2, .int .i64 p.b3, .int .i64 p.o0, .int .i64 p.o1, .int .i64 p.o2, .int .i64 p.o3, .int .i64 p.o4, .int .i64 p.o5, .int .i64 p.o6, .int .i64 p.o7] 36)) 36 (q.cells (.slice A' m' c')) #[.int .i64 q.kind, .int .i64 q.client, .int .i64 q.epoch, .int .i64 q.seq, .int .i64 q.op, .int .i64 q.at_, .int .i64 q.n, .string q.data, .int .i64 q.old, .int .i64 q.new, .int .i64 q.ckind, .string q.path, .string q.path2, .int .i64 q.flags, .int .i64 q.cfd, .int .i64 q.coff, .int .i64 q.cn, .string q.cdata, .int .i64 q.ino, .int .i64 q.errno, .int .i64 q.rerrno, .int .i64 q.rfd, .string q.rdata, .slice A' m' c', .int .i64 q.ikind, .int .i64 q.ilinks, .int .i64 q.isize, .int .i64 q.wrote, .int .i64 q.nkind, .int .i64 q.nlinks, .int .i64 q.nsize, .int .i64 q.b0, .int .i64 q.b1, .int .i64 q.b2, .int .i64 q.b3, .int .i64 q.o0, .int .i64 q.o1, .int .i64 q.o2, .int .i64 q.o3, .int .i64 q.o4, .int .i64 q.o5, .int .i64 q.o6, .int .i64 q.o7] (0, 0) rfl
    rwa [show (w.alloc (.cells #[.int .i64 p.kind, .int .i64 p.client, .int .i64 p.epoch, .int .i64 p.seq, .int .i64 p.op, .int .i64 p.at_, .int .i64 p.n, .string p.data, .int .i64 p.old, .int .i64 p.new, .int .i64 p.ckind, .string p.path, .string p.path2, .int .i64 p.flags, .int .i64 p.cfd, .int .i64 p.coff, .int .i64 p.cn, .string p.cdata, .int .i64 p.ino, .int .i64 p.errno, .int .i64 p.rerrno, .int .i64 p.rfd, .string p.rdata, .slice A m c, .int .i64 p.ikind, .int .i64 p.ilinks, .int .i64 p.isize, .int .i64 p.wrote, .int .i64 p.nkind, .int .i64 p.nlinks, .int .i64 p.nsize, .int .i64 p.b0, .int .i64 p.b1, .int .i64 p.b2, .int .i64 p.b3, .int .i64 p.o0, .int .i64 p.o1, .int .i64 p.o2, .int .i64 p.o3, .int .i64 p.o4, .int .i64 p.o5, .int .i64 p.o6, .int .i64 p.o7] 36)).heap.size = w.heap.size + 1 by simp] at this)
  obtain ⟨w2, hw2⟩ : ∃ z, z = (w.alloc (.cells #[.int .i64 p.kind, .int .i64 p.client, .int .i64 p.epoch, .int .i64 p.seq, .int .i64 p.op, .int .i64 p.at_, .int .i64 p.n, .string p.data, .int .i64 p.old, .int .i64 p.new, .int .i64 p.ckind, .string p.path, .string p.path2, .int .i64 p.flags, .int .i64 p.cfd, .int .i64 p.coff, .int .i64 p.cn, .string p.cdata, .int .i64 p.ino, .int .i64 p.errno, .int .i64 p.rerrno, .int .i64 p.rfd, .string p.rdata, .slice A m c, .int .i64 p.ikind, .int .i64 p.ilinks, .int .i64 p.isize, .int .i64 p.wrote, .int .i64 p.nkind, .int .i64 p.nlinks, .int .i64 p.nsize, .int .i64 p.b0, .int .i64 p.b1, .int .i64 p.b2, .int .i64 p.b3, .int .i64 p.o0, .int .i64 p.o1, .int .i64 p.o2, .int .i64 p.o3, .int .i64 p.o4, .int .i64 p.o5, .int .i64 p.o6, .int .i64 p.o7] 36)).alloc (.cells #[.int .i64 q.kind, .int .i64 q.client, .int .i64 q.epoch, .int .i64 q.seq, .int .i64 q.op, .int .i64 q.at_, .int .i64 q.n, .string q.data, .int .i64 q.old, .int .i64 q.new, .int .i64 q.ckind, .string q.path, .string q.path2, .int .i64 q.flags, .int .i64 q.cfd, .int .i64 q.coff, .int .i64 q.cn, .string q.cdata, .int .i64 q.ino, .int .i64 q.errno, .int .i64 q.rerrno, .int .i64 q.rfd, .string q.rdata, .slice A' m' c', .int .i64 q.ikind, .int .i64 q.ilinks, .int .i64 q.isize, .int .i64 q.wrote, .int .i64 q.nkind, .int .i64 q.nlinks, .int .i64 q.nsize, .int .i64 q.b0, .int .i64 q.b1, .int .i64 q.b2, .int .i64 q.b3, .int .i64 q.o0, .int .i64 q.o1, .int .i64 q.o2, .int .i64 q.o3, .int .i64 q.o4, .int .i64 q.o5, .int .i64 q.o6, .int .i64 q.o7] 36) := ⟨_, rfl⟩
  obtain ⟨x, hx⟩ : ∃ z, z = w.heap.size := ⟨_, rfl⟩
  rw [← hw2] at G2 BX BY ⊢
  have HK := Lib.hid (show RS w2 A m p.names from hp.grow G2)
  have HL := Lib.hid (show RS w2 A' m' q.names from hq.grow G2)
  have HG := Lib.hid G2
  rw [← hx] at BX BY ⊢
  obtain ⟨P0, hP0⟩ : ∃ z, z = Value.agg #[.int .i64 p.kind, .int .i64 p.client, .int .i64 p.epoch, .int .i64 p.seq, .int .i64 p.op, .int .i64 p.at_, .int .i64 p.n, .string p.data, .int .i64 p.old, .int .i64 p.new, .int .i64 p.ckind, .string p.path, .string p.path2, .int .i64 p.flags, .int .i64 p.cfd, .int .i64 p.coff, .int .i64 p.cn, .string p.cdata, .int .i64 p.ino, .int .i64 p.errno, .int .i64 p.rerrno, .int .i64 p.rfd, .string p.rdata, .slice A m c, .int .i64 p.ikind, .int .i64 p.ilinks, .int .i64 p.isize, .int .i64 p.wrote, .int .i64 p.nkind, .int .i64 p.nlinks, .int .i64 p.nsize, .int .i64 p.b0, .int .i64 p.b1, .int .i64 p.b2, .int .i64 p.b3, .int .i64 p.o0, .int .i64 p.o1, .int .i64 p.o2, .int .i64 p.o3, .int .i64 p.o4, .int .i64 p.o5, .int .i64 p.o6, .int .i64 p.o7] := ⟨_, rfl⟩
  obtain ⟨Q0, hQ0⟩ : ∃ z, z = Value.agg #[.int .i64 q.kind, .int .i64 q.client, .int .i64 q.epoch, .int .i64 q.seq, .int .i64 q.op, .int .i64 q.at_, .int .i64 q.n, .string q.data, .int .i64 q.old, .int .i64 q.new, .int .i64 q.ckind, .string q.path, .string q.path2, .int .i64 q.flags, .int .i64 q.cfd, .int .i64 q.coff, .int .i64 q.cn, .string q.cdata, .int .i64 q.ino, .int .i64 q.errno, .int .i64 q.rerrno, .int .i64 q.rfd, .string q.rdata, .slice A' m' c', .int .i64 q.ikind, .int .i64 q.ilinks, .int .i64 q.isize, .int .i64 q.wrote, .int .i64 q.nkind, .int .i64 q.nlinks, .int .i64 q.nsize, .int .i64 q.b0, .int .i64 q.b1, .int .i64 q.b2, .int .i64 q.b3, .int .i64 q.o0, .int .i64 q.o1, .int .i64 q.o2, .int .i64 q.o3, .int .i64 q.o4, .int .i64 q.o5, .int .i64 q.o6, .int .i64 q.o7] := ⟨_, rfl⟩
  rw [← hP0, ← hQ0]
  clear hw2 hp hq G2 hx hP0 hQ0
  have c23 := BX.out.2 23 _ rfl
  have d23 := BY.out.2 23 _ rfl
  go_quiet (fail)
  obtain ⟨w3, hw3⟩ : ∃ z, z = w2.drewN nq := ⟨_, rfl⟩
  have g3 : Grow w2 w3 := by rw [hw3]; exact (Grow.refl _).drewN _
  rw [← hw3]
  replace BX := Lib.hid (BX.out.keep g3)
  replace BY := Lib.hid (BY.out.keep g3)
  replace HK := Lib.hid (HK.out.grow g3)
  replace HL := Lib.hid (HL.out.grow g3)
  replace HG := Lib.hid (HG.out.trans g3)
  clear c23 d23 hw3 g3
  go_upto_region 2 with (fail)
  refine ws_headB p q _ _ BX.out BY.out _ _ _ _ _ _ _ _ _ _ _ _ _ _ _ _ _ _ _ _ _ _ _ _ _ _ _ _ _ _ _ _ _ _ _ _ _ _ _ _ _ _ _ _ _ _ _ _ _ _ _ _ _ _ _ _ _ _ _ _ _ _ _ _ _ _ _ _ _ _ _ _ _ _ _ _ _ _ _ _ _ _ _ _ _ _ _ _ _ _ _ _ _ _ _ _ _ _ _ _ _ _ _ _ _ _ _ _ _ _ _ _ _ _ _ _ _ _ _ _ _ _ _ _ _ _ _ _ _ _ _ _ _ _ _ _ _ _ _ _ _ _ _ _ _ _ _ _ _ _ _ _ _ _ _ _ _ _ _ _ _ _ _ _ ?_
  intro u17 u18 u19 u20 u21 u22 u23 u24 u25 u26 u27 u28 u29 u30 u31 u32 u33 u34 u35 u36 u37 u38 u39 u40 u41 u42 u43 u44 u45 u46 u47 u48 u49
  go_upto_region 3 with (fail)
  refine ws_verbsB p q _ _ BX.out BY.out _ _ _ _ _ _ _ _ _ _ _ _ _ _ _ _ _ _ _ _ _ _ _ _ _ _ _ _ _ _ _ _ _ _ _ _ _ _ _ _ _ _ _ _ _ _ _ _ _ _ _ _ _ _ _ _ _ _ _ _ _ _ _ _ _ _ _ _ _ _ _ _ _ _ _ _ _ _ _ _ _ _ _ _ _ _ _ _ _ _ _ _ _ _ _ _ _ _ _ _ _ _ _ _ _ _ _ _ _ _ _ _ _ _ _ _ _ _ _ _ _ _ _ _ _ _ _ _ _ _ _ _ _ _ _ _ _ _ _ _ _ _ _ _ _ _ _ _ _ _ _ _ _ _ _ _ _ _ _ _ _ _ _ _ ?_
  intro u50 u51 u52 u53 u54 u55 u56 u57 u58 u59 u60 u61 u62 u63 u64 u65 u66 u67 u68 u69 u70 u71 u72 u73 u74 u75 u76 u77 u78 u79 u80 u81 u82
  go_upto_region 4 with (fail)
  refine ws_rpcsB p q _ _ BX.out BY.out _ _ _ _ _ _ _ _ _ _ _ _ _ _ _ _ _ _ _ _ _ _ _ _ _ _ _ _ _ _ _ _ _ _ _ _ _ _ _ _ _ _ _ _ _ _ _ _ _ _ _ _ _ _ _ _ _ _ _ _ _ _ _ _ _ _ _ _ _ _ _ _ _ _ _ _ _ _ _ _ _ _ _ _ _ _ _ _ _ _ _ _ _ _ _ _ _ _ _ _ _ _ _ _ _ _ _ _ _ _ _ _ _ _ _ _ _ _ _ _ _ _ _ _ _ _ _ _ _ _ _ _ _ _ _ _ _ _ _ _ _ _ _ _ _ _ _ _ _ _ _ _ _ _ _ _ _ _ _ _ _ _ _ _ ?_
  intro u83 u84 u85 u86 u87 u88 u89 u90 u91 u92 u93 u94 u95 u96 u97 u98 u99 u100 u101 u102 u103 u104 u105 u106 u107 u108 u109 u110 u111 u112 u113 u114 u115
  go_upto_region 5 with (fail)
  refine ws_replyB p q _ _ BX.out BY.out _ _ _ _ _ _ _ _ _ _ _ _ _ _ _ _ _ _ _ _ _ _ _ _ _ _ _ _ _ _ _ _ _ _ _ _ _ _ _ _ _ _ _ _ _ _ _ _ _ _ _ _ _ _ _ _ _ _ _ _ _ _ _ _ _ _ _ _ _ _ _ _ _ _ _ _ _ _ _ _ _ _ _ _ _ _ _ _ _ _ _ _ _ _ _ _ _ _ _ _ _ _ _ _ _ _ _ _ _ _ _ _ _ _ _ _ _ _ _ _ _ _ _ _ _ _ _ _ _ _ _ _ _ _ _ _ _ _ _ _ _ _ _ _ _ _ _ _ _ _ _ _ _ _ _ _ _ _ _ _ _ _ _ _ ?_
  intro u116 u117 u118 u119 u120 u121 u122 u123 u124 u125 u126 u127 u128 u129 u130 u131 u132 u133 u134 u135 u136 u137 u138 u139 u140 u141 u142 u143 u144 u145 u146 u147 u148 u149
  have HALL := Lib.hid (same_all p q)
  obtain ⟨b0, hb0⟩ : ∃ z, z = headB p q := ⟨_, rfl⟩
  rw [← hb0]
  rw [← hb0] at HALL
  clear hb0
  obtain ⟨b1, hb1⟩ : ∃ z, z = verbsB p q := ⟨_, rfl⟩
  rw [← hb1]
  rw [← hb1] at HALL
  clear hb1
  obtain ⟨b2, hb2⟩ : ∃ z, z = rpcsB p q := ⟨_, rfl⟩
  rw [← hb2]
  rw [← hb2] at HALL
  clear hb2
  obtain ⟨b3, hb3⟩ : ∃ z, z = replyB p q := ⟨_, rfl⟩
  rw [← hb3]
  rw [← hb3] at HALL
  clear hb3
  cases b0 with
  | false =>
    go_wp2_with fail
    go_ret
    exact ⟨ret_bool (by rw [← HALL.out]; simp), HG.out⟩
  | true =>
    cases b1 with
    | false =>
      go_wp2_with fail
      go_ret
      exact ⟨ret_bool (by rw [← HALL.out]; simp), HG.out⟩
    | true =>
      cases b2 with
      | false =>
        go_wp2_with fail
        go_ret
        exact ⟨ret_bool (by rw [← HALL.out]; simp), HG.out⟩
      | true =>
        cases b3 with
        | false =>
          go_wp2_with fail
          go_ret
          exact ⟨ret_bool (by rw [← HALL.out]; simp), HG.out⟩
        | true =>
          go_wp2_with fail
          refine (names_equal HK.out HL.out (by omega) (by omega)).mono ?_
          rintro e w4 ⟨rfl, j, rfl⟩
          go_wp2_with fail
          go_ret
          exact ⟨ret_bool (by rw [← HALL.out]; simp), HG.out.drewN _⟩
end Go.Proofs.Ytdlcpfgogjcciaa

namespace Go.Proofs.Ytdlcpfgogjcciaa
open Go.RowKit Go.Great

/-- What Read answers. -/
def rdE (bs : List UInt8) : Int := if bs.length < 4 then 3 else if getN bs ((bs.length - 4 : Nat) : Int) 4 = (crcN (bs.take (bs.length - 4)) : Nat) then (if okP (bs.take (bs.length - 4)) = true then 0 else 2) else 4
def rdV (bs : List UInt8) : PK := if rdE bs = 0 then (parseP true (bs.take (bs.length - 4))).1 else {}
theorem rdE_short {bs : List UInt8} (h : bs.length < 4) : rdE bs = 3 ∧ rdV bs = {} := by
  have e : rdE bs = 3 := if_pos h
  exact ⟨e, by unfold rdV; rw [e]; rfl⟩
theorem rdE_sum {bs : List UInt8} (h : ¬ bs.length < 4) (hs : ¬ getN bs ((bs.length - 4 : Nat) : Int) 4 = (crcN (bs.take (bs.length - 4)) : Nat)) : rdE bs = 4 ∧ rdV bs = {} := by
  have e : rdE bs = 4 := by unfold rdE; rw [if_neg h, if_neg hs]
  exact ⟨e, by unfold rdV; rw [e]; rfl⟩
theorem rdE_bad {bs : List UInt8} (h : ¬ bs.length < 4) (hs : getN bs ((bs.length - 4 : Nat) : Int) 4 = (crcN (bs.take (bs.length - 4)) : Nat)) (hk : okP (bs.take (bs.length - 4)) = false) : rdE bs = 2 ∧ rdV bs = {} := by
  have e : rdE bs = 2 := by unfold rdE; rw [if_neg h, if_pos hs, hk]; rfl
  exact ⟨e, by unfold rdV; rw [e]; rfl⟩
theorem rdE_ok {bs : List UInt8} (h : ¬ bs.length < 4) (hs : getN bs ((bs.length - 4 : Nat) : Int) 4 = (crcN (bs.take (bs.length - 4)) : Nat)) (hk : okP (bs.take (bs.length - 4)) = true) : rdE bs = 0 ∧ rdV bs = (parseP true (bs.take (bs.length - 4))).1 := by
  have e : rdE bs = 0 := by unfold rdE; rw [if_neg h, if_pos hs, hk]; rfl
  exact ⟨e, by unfold rdV; rw [e]; rfl⟩

/-- A packet of noughts. -/
def zP : List Value := PK.cells {} (.slice none 0 0)
theorem zP_built : Try.prog.built 36 [] = some zP.toArray := by kernel_rfl
theorem zP_one : zP.all (·.oneCell') = true := rfl
theorem pk_size : (Try.prog.info? 36).map (·.size) = some 43 := by kernel_rfl
theorem PK.one (p : PK) {nv : Value} (h : nv.oneCell' = true) : (p.cells nv).all (·.oneCell') = true := by
  simp only [PK.cells, List.all_cons, List.all_nil, h, Bool.and_true, Bool.true_and]
  rfl
theorem read_ret {w : World} {x : Nat} {vs : List Value} {tmps : Array Value} {v : Value} (h2 : tmps.getD 2 undef = .pointer (some ⟨x, 0, none⟩)) (h3 : tmps.getD 3 undef = v) (hg : Blk w x vs) (hsz : vs.length = 43) :
    (results Try.f53 tmps).run Try.prog w = .ok (.tuple #[.agg vs.toArray, v]) w := by
  rw [results_cell_tmp Try.results53, h2, h3]
  simp only [asAddr, Sem.run_pure, Result.andThen_ok]
  rw [run_loadVar_mid (P := Try.prog) w x 0 36 vs _ hg.range Try.underlying36 rfl (by rw [hsz]; exact pk_size)]
  rfl

/-- The method that reads a kind's body. -/
def rdM (k : Int) : FuncId := if k = 1 then 77 else if k = 2 then 78 else if k = 3 then 79 else if k = 4 then 80 else 76
theorem rdM_enter (k : Int) : EntersF (rdM k) := by
  unfold rdM
  repeat' split
  · exact entersF Try.func77 (by kernel_rfl) rfl
  · exact entersF Try.func78 (by kernel_rfl) rfl
  · exact entersF Try.func79 (by kernel_rfl) rfl
  · exact entersF Try.func80 (by kernel_rfl) rfl
  · exact entersF Try.func76 (by kernel_rfl) rfl
theorem OS.one {w : World} {base : Nat} {v : Value} {l : List ByteArray} (h : OS w base v l) : v.oneCell' = true := by
  rcases h.2 with h | ⟨g, cap, cur, h, -⟩
  · rw [h.1]; rfl
  · rw [h]; rfl
theorem OS.keepOff {w w' : World} {base b' x : Nat} {v : Value} {l : List ByteArray} (h : OS w base v l) (t : Turn (fun k => k = x) w w') (hx : x < base) (hb : b' ≤ base) : OS w' b' v l :=
  World.ownsRow.mono (row_turnW h t fun k e q => by have := (World.ownsRow.lt h k e).1; omega) hb
def kindB (k : Int) : Bool := decide (1 ≤ k ∧ k ≤ 5)
/-- Whatever the kind. -/
theorem w_reads {w : World} {g y B : Nat} {bv : Value} {o : OBs} (q : PK) (hq : q.ino = 0) (h : DS w g B bv (gd (kindB q.kind) o)) (hx : Row w y (q.cells (.slice none 0 0))) (hyg : ¬ y = g) (hB : B ≤ y) (hn : q.names = []) :
    Calls Try.prog (rdM q.kind) #[.pointer (some ⟨g, 0, none⟩), .pointer (some ⟨y, 0, none⟩)] w fun e w' => e = .returned (.tuple #[]) ∧ ∃ nv, MDone w w' g y B (rBody true q o) nv ∧ ((rBody true q o).2.isSome = true → OS w' w.heap.size nv (rBody true q o).1.names) := by
  have hos : ∀ w' : World, OS w' w.heap.size (.slice none 0 0) [] := fun w' => World.ownsRow_nil _ _ _ _
  by_cases k1 : q.kind = 1
  · have e : rBody true q o = rAsk true q o := by unfold rBody; rw [if_pos k1]
    rw [e, show rdM q.kind = 77 by unfold rdM; rw [if_pos k1]]
    rw [show kindB q.kind = true by rw [k1]; rfl] at h
    refine (rd_verbAsk h q _ hx hyg hB).mono ?_
    rintro e w' ⟨rfl, hm⟩
    exact ⟨rfl, _, hm, fun _ => by show OS _ _ _ q.names; rw [hn]; exact hos w'⟩
  by_cases k2 : q.kind = 2
  · have e : rBody true q o = rTold true q o := by unfold rBody; rw [if_neg k1, if_pos k2]
    rw [e, show rdM q.kind = 78 by unfold rdM; rw [if_neg k1, if_pos k2]]
    rw [show kindB q.kind = true by rw [k2]; rfl] at h
    refine (rd_verbTold h q _ hx hyg hB).mono ?_
    rintro e w' ⟨rfl, hm⟩
    exact ⟨rfl, _, hm, fun _ => by show OS _ _ _ q.names; rw [hn]; exact hos w'⟩
  by_cases k3 : q.kind = 3
  · have e : rBody true q o = rRAsk true q o := by unfold rBody; rw [if_neg k1, if_neg k2, if_pos k3]
    rw [e, show rdM q.kind = 79 by unfold rdM; rw [if_neg k1, if_neg k2, if_pos k3]]
    rw [show kindB q.kind = true by rw [k3]; rfl] at h
    refine (rd_rpcAsk h q _ hx hyg hB).mono ?_
    rintro e w' ⟨rfl, hm⟩
    exact ⟨rfl, _, hm, fun _ => by show OS _ _ _ q.names; rw [hn]; exact hos w'⟩
  by_cases k4 : q.kind = 4
  · have e : rBody true q o = rRTold true q o := by unfold rBody; rw [if_neg k1, if_neg k2, if_neg k3, if_pos k4]
    rw [e, show rdM q.kind = 80 by unfold rdM; rw [if_neg k1, if_neg k2, if_neg k3, if_pos k4]]
    rw [show kindB q.kind = true by rw [k4]; rfl] at h
    exact rd_rpcTold h q hx hyg hB
  rw [show rdM q.kind = 76 by unfold rdM; rw [if_neg k1, if_neg k2, if_neg k3, if_neg k4]]
  refine (rd_recall h q _ hx hyg hB).mono ?_
  rintro e w' ⟨rfl, hm⟩
  have e : rBody true q o = rRecall q (gd (kindB q.kind) o) := by
    unfold rBody
    rw [if_neg k1, if_neg k2, if_neg k3, if_neg k4]
    by_cases k5 : q.kind = 5
    · rw [if_pos k5, show kindB q.kind = true by rw [k5]; rfl]; rfl
    · rw [if_neg k5, show kindB q.kind = false by unfold kindB; rw [decide_eq_false]; omega]
      show (q, none) = ({ q with ino := 0 }, none)
      rw [← hq]
  rw [e]
  exact ⟨rfl, _, hm, fun _ => by show OS _ _ _ q.names; rw [hn]; exact hos w'⟩

set_option maxHeartbeats 16000000 in
set_option maxRecDepth 8000 in
theorem w_read {w : World} {A : Option Addr} {n c : Nat} {bs : List UInt8} (hs : Sl w A n bs) (hc : n ≤ c) (hn : n ≤ 4000000000000) (hA : 0 < n → ∀ p, A = some p → p.block < w.heap.size) :
    Calls Try.prog 53 #[.slice A n c] w fun e w' => ∃ nv, e = .returned (.tuple #[.agg ((rdV bs).cells nv).toArray, .int .i64 (rdE bs)]) ∧ Grow w w' ∧ OS w' w.heap.size nv (rdV bs).names := by
  have HS := Lib.hid hs
  have HA := Lib.hid hA
  have hbl := hs.1
  clear hs hA
  go_enter Try.func53, Try.ntmps53
  have hRow := Row.new w 36 zP #[.int .i64 0, .int .i64 0, .int .i64 0, .int .i64 0, .int .i64 0, .int .i64 0, .int .i64 0, .string ⟨#[]⟩, .int .i64 0, .int .i64 0, .int .i64 0, .string ⟨#[]⟩, .string ⟨#[]⟩, .int .i64 0, .int .i64 0, .int .i64 0, .int .i64 0, .string ⟨#[]⟩, .int .i64 0, .int .i64 0, .int .i64 0, .int .i64 0, .string ⟨#[]⟩, .slice none 0 0, .int .i64 0, .int .i64 0, .int .i64 0, .int .i64 0, .int .i64 0, .int .i64 0, .int .i64 0, .int .i64 0, .int .i64 0, .int .i64 0, .int .i64 0, .int .i64 0, .int .i64 0, .int .i64 0, .int .i64 0, .int .i64 0, .int .i64 0, .int .i64 0, .int .i64 0] rfl
  have hG := (Grow.refl w).alloc (.cells #[.int .i64 0, .int .i64 0, .int .i64 0, .int .i64 0, .int .i64 0, .int .i64 0, .int .i64 0, .string ⟨#[]⟩, .int .i64 0, .int .i64 0, .int .i64 0, .string ⟨#[]⟩, .string ⟨#[]⟩, .int .i64 0, .int .i64 0, .int .i64 0, .int .i64 0, .string ⟨#[]⟩, .int .i64 0, .int .i64 0, .int .i64 0, .int .i64 0, .string ⟨#[]⟩, .slice none 0 0, .int .i64 0, .int .i64 0, .int .i64 0, .int .i64 0, .int .i64 0, .int .i64 0, .int .i64 0, .int .i64 0, .int .i64 0, .int .i64 0, .int .i64 0, .int .i64 0, .int .i64 0, .int .i64 0, .int .i64 0, .int .i64 0, .int .i64 0, .int .i64 0, .int .i64 0] 36)
  go_upto_region 1 with (fail)
  obtain ⟨w1, hw1⟩ : ∃ z, z = w.alloc (.cells #[.int .i64 0, .int .i64 0, .int .i64 0, .int .i64 0, .int .i64 0, .int .i64 0, .int .i64 0, .string ⟨#[]⟩, .int .i64 0, .int .i64 0, .int .i64 0, .string ⟨#[]⟩, .string ⟨#[]⟩, .int .i64 0, .int .i64 0, .int .i64 0, .int .i64 0, .string ⟨#[]⟩, .int .i64 0, .int .i64 0, .int .i64 0, .int .i64 0, .string ⟨#[]⟩, .slice none 0 0, .int .i64 0, .int .i64 0, .int .i64 0, .int .i64 0, .int .i64 0, .int .i64 0, .int .i64 0, .int .i64 0, .int .i64 0, .int .i64 0, .int .i64 0, .int .i64 0, .int .i64 0, .int .i64 0, .int .i64 0, .int .i64 0, .int .i64 0, .int .i64 0, .int .i64 0] 36) := ⟨_, rfl⟩
  obtain ⟨x, hx⟩ : ∃ z, z = w.heap.size := ⟨_, rfl⟩
  rw [← hw1] at hRow hG ⊢
  rw [← hx] at hRow ⊢
  have HROW := Lib.hid hRow
  have HG := Lib.hid hG
  have HX := Lib.hid hx
  clear hw1 hRow hG hx
  by_cases h4 : n < 4
  · have hneg : (n : Int) - 4 < 0 := by omega
    have z1 : decide ((n : Int) - 4 < 0) = true := decide_eq_true hneg
    have e5 : wrap64 ((n : Int) - 4) = (n : Int) - 4 := IntWalk.wrap64_in _ (by omega)
    go_upto_region 3 with (fail)
    refine wp_region_list ?_
    refine wpList_buildTo rfl 36 #[] rfl (some 15) rfl zP.toArray (by kernel_rfl) ?_
    refine wpList_storeRow rfl 36 (.tmp 2) (.tmp 15) rfl rfl x rfl zP zP rfl HROW.out rfl pk_size zP_one ?_
    intro w2 r2 t2 s2
    have HR := Lib.hid r2
    have HT := Lib.hid t2
    clear r2 t2 s2
    go_wp2_with fail
    obtain ⟨s1, s2⟩ := rdE_short (bs := bs) (by omega)
    refine bodyPost_ret (read_ret rfl rfl HR.out.1 rfl) rfl ⟨.slice none 0 0, by rw [s1, s2]; rfl, ?_, ?_⟩
    · exact HG.out.low (HT.out.low (fun i e => by have := HX.out; have e' : i = x := e; omega) HG.out.size)
    · rw [s2]; exact World.ownsRow_nil _ _ _ _
  · obtain ⟨m, rfl⟩ : ∃ m, n = m + 4 := ⟨n - 4, by omega⟩
    have e5 : wrap64 (((m + 4 : Nat) : Int) - 4) = (m : Int) := by rw [show ((m + 4 : Nat) : Int) - 4 = (m : Int) by omega]; exact IntWalk.wrap64_in _ (by omega)
    have z1 : decide ((m : Int) < 0) = false := decide_eq_false (by omega)
    have HS1 := Lib.hid (HS.out.keep HG.out)
    go_wp2_with fail
    refine (get_s HS1.out (by omega) (by omega)).mono ?_
    rintro e w2 ⟨rfl, rfl⟩
    have hm4 : m ≤ m + 4 := by omega
    obtain ⟨gv, hgv⟩ : ∃ z, z = getN bs (m : Int) 4 := ⟨_, rfl⟩
    rw [← hgv]
    have HGV := Lib.hid hgv
    clear hgv
    go_wp2_with fail
    refine (sum_s (HS1.out.take hm4)).mono ?_
    rintro e w3 ⟨q, rfl, hq, hq4, g3⟩
    have HG3 := Lib.hid (HG.out.trans g3)
    have HROW3 := Lib.hid (HROW.out.keep g3)
    have HS3 := Lib.hid (HS1.out.keep g3)
    have HZ3 := Lib.hid (show x < w3.heap.size from (HROW.out.keep g3).1.1)
    have h4 : ¬ bs.length < 4 := by omega
    have el : bs.length - 4 = m := by omega
    have HEL := Lib.hid el
    clear g3 el
    by_cases hsum : gv = (q : Int)
    · have HSQ := Lib.hid hsum
      have z2 : (gv != (q : Int)) = false := by rw [bne_eq_false_iff_eq]; exact hsum
      go_upto_region 8 with (fail)
      have hrow := Row.new w3 125 [.slice A m c, .bool false] _ rfl
      have ga := (Grow.refl w3).alloc (.cells #[.slice A m c, .bool false] 125)
      obtain ⟨w4, hw4⟩ : ∃ z, z = w3.alloc (.cells #[.slice A m c, .bool false] 125) := ⟨_, rfl⟩
      obtain ⟨g, hg⟩ : ∃ z, z = w3.heap.size := ⟨_, rfl⟩
      rw [← hw4] at hrow ga ⊢
      rw [← hg] at hrow ⊢
      have hBg : w.heap.size ≤ g := by rw [hg]; exact HG3.out.size
      have hxg : ¬ x = g := by have := HZ3.out; omega
      have HD4 := Lib.hid (show DS w4 g w.heap.size (.slice A m c) (some (bs.take m)) from
        ⟨hrow, hBg, A, m, c, bs.take m, rfl, (HS3.out.take hm4).keep ga, by omega, fun h0 p hp => HA.out (by omega) p hp, fun l hl => by injection hl with hl; exact hl.symm⟩)
      have HROW4 := Lib.hid (HROW3.out.keep ga)
      have HG4 := Lib.hid (HG3.out.trans ga)
      have hg4 : g < w4.heap.size := hrow.1.1
      clear hw4 hrow ga hg HROW3 HG3
      refine wp_region_list ?_
      refine wpList_runTo rfl (some 35) rfl (.pointer (some ⟨g, 0, none⟩)) w4 (by first | rfl | go_simp) ?_
      refine wpList_callC rfl (some 36) rfl 75 #[.pointer (some ⟨g, 0, none⟩), .int .i64 1] (by first | rfl | go_simp) _ (rd_number HD4.out 1 (by decide) 1 rfl) (fun e w' h => ⟨_, h.1⟩) ?_
      rintro v w5 ⟨he, bv5, h5, t5⟩
      obtain rfl : v = .int .i64 (rN (some (bs.take m)) 1) := by injection he
      obtain ⟨s0, hs0⟩ : ∃ z, z = some (bs.take m) := ⟨_, rfl⟩
      rw [← hs0] at h5 ⊢
      have HS0 := Lib.hid hs0
      obtain ⟨e1, hE⟩ : ∃ z, z = rN s0 1 := ⟨_, rfl⟩
      obtain ⟨s1, hs⟩ : ∃ z, z = rNr s0 1 := ⟨_, rfl⟩
      rw [← hE]
      rw [← hs] at h5
      have HE1 := Lib.hid hE
      have HS1 := Lib.hid hs
      clear hE hs he hs0
      refine wpList_buildTo rfl 36 #[(0, .tmp 36)] rfl (some 37) rfl (PK.cells { kind := e1 } (.slice none 0 0)).toArray (by kernel_rfl) ?_
      have hy0 := Row.new w5 36 zP #[.int .i64 0, .int .i64 0, .int .i64 0, .int .i64 0, .int .i64 0, .int .i64 0, .int .i64 0, .string ⟨#[]⟩, .int .i64 0, .int .i64 0, .int .i64 0, .string ⟨#[]⟩, .string ⟨#[]⟩, .int .i64 0, .int .i64 0, .int .i64 0, .int .i64 0, .string ⟨#[]⟩, .int .i64 0, .int .i64 0, .int .i64 0, .int .i64 0, .string ⟨#[]⟩, .slice none 0 0, .int .i64 0, .int .i64 0, .int .i64 0, .int .i64 0, .int .i64 0, .int .i64 0, .int .i64 0, .int .i64 0, .int .i64 0, .int .i64 0, .int .i64 0, .int .i64 0, .int .i64 0, .int .i64 0, .int .i64 0, .int .i64 0, .int .i64 0, .int .i64 0, .int .i64 0] rfl
      have ga := (Grow.refl w5).alloc (.cells #[.int .i64 0, .int .i64 0, .int .i64 0, .int .i64 0, .int .i64 0, .int .i64 0, .int .i64 0, .string ⟨#[]⟩, .int .i64 0, .int .i64 0, .int .i64 0, .string ⟨#[]⟩, .string ⟨#[]⟩, .int .i64 0, .int .i64 0, .int .i64 0, .int .i64 0, .string ⟨#[]⟩, .int .i64 0, .int .i64 0, .int .i64 0, .int .i64 0, .string ⟨#[]⟩, .slice none 0 0, .int .i64 0, .int .i64 0, .int .i64 0, .int .i64 0, .int .i64 0, .int .i64 0, .int .i64 0, .int .i64 0, .int .i64 0, .int .i64 0, .int .i64 0, .int .i64 0, .int .i64 0, .int .i64 0, .int .i64 0, .int .i64 0, .int .i64 0, .int .i64 0, .int .i64 0] 36)
      refine wpList_allocTo rfl (some 8) rfl (.pointer (some ⟨w5.heap.size, 0, none⟩)) (.cells #[.int .i64 0, .int .i64 0, .int .i64 0, .int .i64 0, .int .i64 0, .int .i64 0, .int .i64 0, .string ⟨#[]⟩, .int .i64 0, .int .i64 0, .int .i64 0, .string ⟨#[]⟩, .string ⟨#[]⟩, .int .i64 0, .int .i64 0, .int .i64 0, .int .i64 0, .string ⟨#[]⟩, .int .i64 0, .int .i64 0, .int .i64 0, .int .i64 0, .string ⟨#[]⟩, .slice none 0 0, .int .i64 0, .int .i64 0, .int .i64 0, .int .i64 0, .int .i64 0, .int .i64 0, .int .i64 0, .int .i64 0, .int .i64 0, .int .i64 0, .int .i64 0, .int .i64 0, .int .i64 0, .int .i64 0, .int .i64 0, .int .i64 0, .int .i64 0, .int .i64 0, .int .i64 0] 36) (by kernel_rfl) ?_
      obtain ⟨w6, hw6⟩ : ∃ z, z = w5.alloc (.cells #[.int .i64 0, .int .i64 0, .int .i64 0, .int .i64 0, .int .i64 0, .int .i64 0, .int .i64 0, .string ⟨#[]⟩, .int .i64 0, .int .i64 0, .int .i64 0, .string ⟨#[]⟩, .string ⟨#[]⟩, .int .i64 0, .int .i64 0, .int .i64 0, .int .i64 0, .string ⟨#[]⟩, .int .i64 0, .int .i64 0, .int .i64 0, .int .i64 0, .string ⟨#[]⟩, .slice none 0 0, .int .i64 0, .int .i64 0, .int .i64 0, .int .i64 0, .int .i64 0, .int .i64 0, .int .i64 0, .int .i64 0, .int .i64 0, .int .i64 0, .int .i64 0, .int .i64 0, .int .i64 0, .int .i64 0, .int .i64 0, .int .i64 0, .int .i64 0, .int .i64 0, .int .i64 0] 36) := ⟨_, rfl⟩
      obtain ⟨y, hy⟩ : ∃ z, z = w5.heap.size := ⟨_, rfl⟩
      rw [← hw6] at hy0 ga ⊢
      rw [← hy] at hy0 ⊢
      have hyg : ¬ y = g := by have := h5.blk.1.1; omega
      have hBy : w.heap.size ≤ y := by have := h5.blk.1.1; omega
      have hxy : ¬ x = y := by have := (HROW4.out.turnW t5 hxg).1.1; omega
      refine wpList_storeRow rfl 36 (.tmp 8) (.tmp 37) rfl rfl y rfl (PK.cells { kind := e1 } (.slice none 0 0)) zP rfl hy0 rfl pk_size rfl ?_
      intro w7 r7 t7 z7
      have HD1 := Lib.hid ((h5.keep ga).turn t7 (fun e => hyg e.symm) (fun k e => by have e' : k = y := e; omega))
      have HX1 := Lib.hid r7
      have HT1 := Lib.hid (((t5.andGrow ga).mono (fun _ e => .inl e)).and (t7.mono (fun _ e => .inr e)) : Turn (fun k => k = g ∨ k = y) w4 w7)
      have hg1 : g < w7.heap.size := Nat.lt_of_lt_of_le hg4 HT1.out.size
      clear h5 t5 ga r7 t7 z7 hy0 hy hw6
      go_wp2_with fail
      refine (rd_number HD1.out 1 (by decide) 1 rfl).mono ?_
      rintro e v2 ⟨rfl, bv2, h2, t2⟩
      obtain ⟨e2, he⟩ : ∃ z, z = rN s1 1 := ⟨_, rfl⟩
      obtain ⟨s2, hs⟩ : ∃ z, z = rNr s1 1 := ⟨_, rfl⟩
      rw [← he]
      rw [← hs] at h2
      have HE2 := Lib.hid he
      have HS2 := Lib.hid hs
      have hxr := HX1.out.turnW t2 hyg
      have c1 := hxr.1.2 1 _ rfl
      have f1 := hxr.2 1 (by simp [PK.cells])
      have k1 := hxr.1.1
      have P := h2.put hxr hyg hBy 1 (.int .i64 e2) (by simp [PK.cells])
      have HD2 := Lib.hid P.1
      have HX2 := Lib.hid (show Row (v2.setCell ⟨y, 1, none⟩ (.int .i64 e2)) y (({ kind := e1, client := e2 } : PK).cells (.slice none 0 0)) from P.2.1)
      have HT2 := Lib.hid ((HT1.out.and (t2.mono fun _ e => .inl e)).and (P.2.2.mono fun _ e => .inr e))
      have hg2 : g < v2.heap.size := Nat.lt_of_lt_of_le (show g < w7.heap.size by simpa using hg1) t2.size
      clear P hxr h2 t2 he hs HX1 HD1 HT1
      go_wp2_with fail
      refine (rd_number HD2.out 4 (by decide) 4 rfl).mono ?_
      rintro e v3 ⟨rfl, bv3, h2, t2⟩
      obtain ⟨e3, he⟩ : ∃ z, z = rN s2 4 := ⟨_, rfl⟩
      obtain ⟨s3, hs⟩ : ∃ z, z = rNr s2 4 := ⟨_, rfl⟩
      rw [← he]
      rw [← hs] at h2
      have HE3 := Lib.hid he
      have HS3 := Lib.hid hs
      have hxr := HX2.out.turnW t2 hyg
      have c2 := hxr.1.2 2 _ rfl
      have f2 := hxr.2 2 (by simp [PK.cells])
      have k2 := hxr.1.1
      have P := h2.put hxr hyg hBy 2 (.int .i64 e3) (by simp [PK.cells])
      have HD3 := Lib.hid P.1
      have HX3 := Lib.hid (show Row (v3.setCell ⟨y, 2, none⟩ (.int .i64 e3)) y (({ kind := e1, client := e2, epoch := e3 } : PK).cells (.slice none 0 0)) from P.2.1)
      have HT3 := Lib.hid ((HT2.out.and (t2.mono fun _ e => .inl e)).and (P.2.2.mono fun _ e => .inr e))
      have hg3 : g < v3.heap.size := Nat.lt_of_lt_of_le (show g < (v2.setCell ⟨y, 1, none⟩ (.int .i64 e2)).heap.size by simpa using hg2) t2.size
      clear P hxr h2 t2 he hs HX2 HD2 HT2
      go_wp2_with fail
      refine (rd_number HD3.out 8 (by decide) 8 rfl).mono ?_
      rintro e v4 ⟨rfl, bv4, h2, t2⟩
      obtain ⟨e4, he⟩ : ∃ z, z = rN s3 8 := ⟨_, rfl⟩
      obtain ⟨s4, hs⟩ : ∃ z, z = rNr s3 8 := ⟨_, rfl⟩
      rw [← he]
      rw [← hs] at h2
      have HE4 := Lib.hid he
      have HS4 := Lib.hid hs
      have hxr := HX3.out.turnW t2 hyg
      have c3 := hxr.1.2 3 _ rfl
      have f3 := hxr.2 3 (by simp [PK.cells])
      have k3 := hxr.1.1
      have P := h2.put hxr hyg hBy 3 (.int .i64 e4) (by simp [PK.cells])
      have HD4 := Lib.hid P.1
      have HX4 := Lib.hid (show Row (v4.setCell ⟨y, 3, none⟩ (.int .i64 e4)) y (({ kind := e1, client := e2, epoch := e3, seq := e4 } : PK).cells (.slice none 0 0)) from P.2.1)
      have HT4 := Lib.hid ((HT3.out.and (t2.mono fun _ e => .inl e)).and (P.2.2.mono fun _ e => .inr e))
      have hg4 : g < v4.heap.size := Nat.lt_of_lt_of_le (show g < (v3.setCell ⟨y, 2, none⟩ (.int .i64 e3)).heap.size by simpa using hg3) t2.size
      clear P hxr h2 t2 he hs HX3 HD3 HT3
      go_upto_region 13 with (fail)
      have HW5 := Lib.hid (show ∃ z, z = v4.setCell ⟨y, 3, none⟩ (.int .i64 e4) from ⟨_, rfl⟩)
      obtain ⟨w5, hw5⟩ := HW5.out
      rw [← hw5] at HD4 HX4 HT4 ⊢
      have hg5 : g < w5.heap.size := by rw [hw5]; simpa using hg4
      have hy5 := HX4.out.1.1
      clear hw5 HW5 hg4 c1 c2 c3 f1 f2 f3 k1 k2 k3
      have c0 := HX4.out.1.2 0 _ rfl
      go_upto_block 0 with (fail)
      go_cut [9] (fun v wx => v = .func (.func (rdM e1)) #[.pointer (some ⟨g, 0, none⟩)] #[] ∧ ∃ bv', DS wx g w.heap.size bv' (gd (kindB e1) s4) ∧ Turn (fun k => k = g) w5 wx)
      case first =>
        by_cases k1 : e1 = 1
        · subst k1
          go_wp2_with fail
          go_meet
          exact ⟨rfl, _, HD4.out, Turn.refl _ _⟩
        by_cases k2 : e1 = 2
        · subst k2
          go_wp2_with fail
          go_meet
          exact ⟨rfl, _, HD4.out, Turn.refl _ _⟩
        by_cases k3 : e1 = 3
        · subst k3
          go_wp2_with fail
          go_meet
          exact ⟨rfl, _, HD4.out, Turn.refl _ _⟩
        by_cases k4 : e1 = 4
        · subst k4
          go_wp2_with fail
          go_meet
          exact ⟨rfl, _, HD4.out, Turn.refl _ _⟩
        by_cases k5 : e1 = 5
        · subst k5
          go_wp2_with fail
          go_meet
          exact ⟨rfl, _, HD4.out, Turn.refl _ _⟩
        have HK := Lib.hid (show rdM e1 = 76 ∧ kindB e1 = false from ⟨by unfold rdM; rw [if_neg k1, if_neg k2, if_neg k3, if_neg k4], by unfold kindB; rw [decide_eq_false]; omega⟩)
        have q1 : (e1 == 1) = false := beq_eq_false_iff_ne.2 k1
        have q2 : (e1 == 2) = false := beq_eq_false_iff_ne.2 k2
        have q3 : (e1 == 3) = false := beq_eq_false_iff_ne.2 k3
        have q4 : (e1 == 4) = false := beq_eq_false_iff_ne.2 k4
        have q5 : (e1 == 5) = false := beq_eq_false_iff_ne.2 k5
        have hf1 := HD4.out.blk.2 1 (by simp)
        have d1 := HD4.out.blk.1.c2.2
        have HF := Lib.hid (HD4.out.flag false true rfl)
        go_wp2_with fail
        go_meet
        rw [HK.out.1, HK.out.2]
        exact ⟨rfl, _, HF.out.1, HF.out.2⟩
      case rest =>
        obtain ⟨rfl, bv6, h6, t6⟩ := hcut
        have HD6 := Lib.hid h6
        have HX6 := Lib.hid (HX4.out.turnW t6 hyg)
        have HT6 := Lib.hid (HT4.out.and (t6.mono fun _ e => .inl e))
        have hg6 := Nat.lt_of_lt_of_le hg5 t6.size
        have hy6 := HX6.out.1.1
        clear h6 t6 HD4 HX4 HT4 hg5 hy5
        have hK : ∀ args w, (callFunc (rdM e1) args).run Try.prog w = .ok (.enter (rdM e1) args) w := rdM_enter e1
        go_wp2_with fail
        refine (w_reads { kind := e1, client := e2, epoch := e3, seq := e4 } rfl HD6.out HX6.out hyg hBy rfl).mono ?_
        rintro e w7 ⟨rfl, nv, ⟨bv7, h7, r7, t7⟩, hos⟩
        have HP := Lib.hid (show rBody true { kind := e1, client := e2, epoch := e3, seq := e4 } s4 = parseP true (bs.take m) by
          rw [HE4.out, HE3.out, HE2.out, HE1.out, HS4.out, HS3.out, HS2.out, HS1.out, HS0.out]; rfl)
        obtain ⟨z, hz⟩ : ∃ z, z = rBody true { kind := e1, client := e2, epoch := e3, seq := e4 } s4 := ⟨_, rfl⟩
        rw [← hz] at h7 r7 hos HP
        clear hz
        have HR7 := Lib.hid r7
        have HD7 := Lib.hid h7
        have HT7 := Lib.hid (HT6.out.and t7)
        have HOS := Lib.hid hos
        have hsz6 : wc.heap.size ≤ w7.heap.size := t7.size
        have hx6 : x < wc.heap.size := by have := HROW4.out.1.1; have := HT6.out.size; omega
        have HROW7 := Lib.hid ((HROW4.out.turnW HT6.out (by omega)).turnW t7 (by omega))
        clear h7 r7 t7 hos HD6 HX6 hK
        go_upto_region 25 with (fail)
        obtain ⟨A7, n7, c7, bs7, rfl, hs7, hc7, -, hl7⟩ := HD7.out.row
        obtain ⟨d0, d1⟩ := HD7.out.blk.1.c2
        have c1 := HR7.out.1.2 1 _ rfl
        have hg7 := HD7.out.blk.1.1
        have hy7 := HR7.out.1.1
        go_cut [95] (fun v wx => v = .bool (!okP (bs.take m)) ∧ wx = w7)
        case first =>
          obtain ⟨zp, zo⟩ := z
          cases zo with
          | none =>
            have HV := Lib.hid (show okP (bs.take m) = false by unfold okP; rw [← HP.out]; rfl)
            have d1' : w7.cell? ⟨g, 1, none⟩ = some (.bool true) := d1
            clear d1
            go_wp2_with fail
            go_meet
            rw [HV.out]
            exact ⟨rfl, rfl⟩
          | some l =>
            obtain rfl := hl7 l rfl
            have d1' : w7.cell? ⟨g, 1, none⟩ = some (.bool false) := d1
            clear d1
            have hln := hs7.1
            by_cases h0 : 0 < n7
            · have HV := Lib.hid (show okP (bs.take m) = false by
                unfold okP; rw [← HP.out]
                have : ¬ (some l = some []) := by intro e; injection e with e; subst e; simp at hln; omega
                show (decide (some l = some []) && _) = false
                rw [decide_eq_false this]; rfl)
              have z3 : decide ((0 : Int) < (n7 : Int)) = true := decide_eq_true (by omega)
              have z4 : decide (0 < n7) = true := decide_eq_true h0
              clear hl7 hs7 hln
              go_wp2_with fail
              go_meet
              rw [HV.out]
              exact ⟨rfl, rfl⟩
            obtain rfl : n7 = 0 := by omega
            obtain rfl : l = [] := List.eq_nil_of_length_eq_zero hln
            have HV := Lib.hid (show okP (bs.take m) = cliB zp.client by unfold okP; rw [← HP.out]; rfl)
            obtain ⟨cl, hcl⟩ : ∃ cl, cl = zp.client := ⟨_, rfl⟩
            have c1' : w7.cell? ⟨y, 1, none⟩ = some (.int .i64 cl) := by rw [hcl]; exact c1
            rw [← hcl] at HV
            clear hl7 hs7 hln c1 hcl
            by_cases hc1 : cl < 1
            · have z3 : decide (cl < 1) = true := decide_eq_true hc1
              go_wp2_with fail
              go_meet
              rw [HV.out, show cliB cl = false by unfold cliB; rw [decide_eq_false]; omega]
              exact ⟨rfl, rfl⟩
            have z3 : decide (cl < 1) = false := decide_eq_false hc1
            by_cases hc8 : 8 < cl
            · have z4 : decide (8 < cl) = true := decide_eq_true hc8
              go_wp2_with fail
              go_meet
              rw [HV.out, show cliB cl = false by unfold cliB; rw [decide_eq_false]; omega]
              exact ⟨rfl, rfl⟩
            have z4 : decide (8 < cl) = false := decide_eq_false hc8
            go_wp2_with fail
            go_meet
            rw [HV.out, show cliB cl = true by unfold cliB; rw [decide_eq_true]; omega]
            exact ⟨rfl, rfl⟩
        case rest =>
          obtain ⟨rfl, rfl⟩ := hcut
          have HSQ2 := Lib.hid (show getN bs ((bs.length - 4 : Nat) : Int) 4 = (crcN (bs.take (bs.length - 4)) : Nat) by rw [HEL.out, ← HGV.out, ← hq.out]; exact hsum)
          clear d0 d1 c1 hl7 hs7
          cases hk : okP (bs.take m) with
          | false =>
            have HSS := Lib.hid (rdE_bad h4 HSQ2.out (by rw [HEL.out]; exact hk))
            clear hk
            go_upto_region 26 with (fail)
            refine wp_region_list ?_
            refine wpList_buildTo rfl 36 #[] rfl (some 96) rfl zP.toArray (by kernel_rfl) ?_
            refine wpList_storeRow rfl 36 (.tmp 2) (.tmp 96) rfl rfl x rfl zP zP rfl HROW7.out rfl pk_size zP_one ?_
            intro w8 r8 t8 z8
            have HR8 := Lib.hid r8
            have HT8 := Lib.hid t8
            clear r8 t8 z8
            go_wp2_with fail
            obtain ⟨s1, s2⟩ := HSS.out
            refine bodyPost_ret (read_ret rfl rfl HR8.out.1 rfl) rfl ⟨.slice none 0 0, by rw [s1, s2]; rfl, ?_, ?_⟩
            · exact HG4.out.low ((HT7.out.low (B := w.heap.size) (fun i e => by have e' : i = g ∨ i = y := e; omega) HG4.out.size).trans (HT8.out.low (fun i e => by have := HX.out; have e' : i = x := e; omega) (by have := HX.out; omega)))
            · rw [s2]; exact World.ownsRow_nil _ _ _ _
          | true =>
            have HSS := Lib.hid (rdE_ok h4 HSQ2.out (by rw [HEL.out]; exact hk))
            have HOZ := Lib.hid (HOS.out (by
              rw [HP.out]
              have := hk
              unfold okP at this
              rw [Bool.and_eq_true] at this
              rw [of_decide_eq_true this.1]; rfl))
            clear hk
            go_upto_region 27 with (fail)
            refine wp_region_list ?_
            refine wpList_loadRow rfl 36 (.tmp 8) rfl (some 97) rfl y rfl (z.1.cells nv) _ HR7.out.1 Try.underlying36 rfl pk_size ?_
            refine wpList_storeRow rfl 36 (.tmp 2) (.tmp 97) rfl rfl x rfl (z.1.cells nv) zP rfl HROW7.out rfl pk_size (PK.one _ HOZ.out.one) ?_
            intro w8 r8 t8 z8
            have HR8 := Lib.hid r8
            have HT8 := Lib.hid t8
            clear r8 t8 z8
            go_wp2_with fail
            obtain ⟨s1, s2⟩ := HSS.out
            have hz : z.1 = rdV bs := by rw [s2, HP.out, HEL.out]
            rw [hz] at HR8 HOZ
            refine bodyPost_ret (read_ret rfl rfl HR8.out.1 rfl) rfl ⟨nv, by rw [s1]; rfl, ?_, ?_⟩
            · exact HG4.out.low ((HT7.out.low (B := w.heap.size) (fun i e => by have e' : i = g ∨ i = y := e; omega) HG4.out.size).trans (HT8.out.low (fun i e => by have := HX.out; have e' : i = x := e; omega) (by have := HX.out; omega)))
            · exact HOZ.out.keepOff HT8.out (by omega) (by have := HX.out; omega)
    · have HSS := Lib.hid (rdE_sum h4 (by rw [HEL.out, ← HGV.out, ← hq.out]; exact hsum))
      have z2 : (gv != (q : Int)) = true := by rw [bne_iff_ne]; exact hsum
      go_upto_region 6 with (fail)
      refine wp_region_list ?_
      refine wpList_buildTo rfl 36 #[] rfl (some 29) rfl zP.toArray (by kernel_rfl) ?_
      refine wpList_storeRow rfl 36 (.tmp 2) (.tmp 29) rfl rfl x rfl zP zP rfl HROW3.out rfl pk_size zP_one ?_
      intro w8 r8 t8 z8
      have HR8 := Lib.hid r8
      have HT8 := Lib.hid t8
      clear r8 t8 z8
      go_wp2_with fail
      obtain ⟨s1, s2⟩ := HSS.out
      refine bodyPost_ret (read_ret rfl rfl HR8.out.1 rfl) rfl ⟨.slice none 0 0, by rw [s1, s2]; rfl, ?_, ?_⟩
      · exact HG3.out.low (HT8.out.low (fun i e => by have := HX.out; have e' : i = x := e; omega) HG3.out.size)
      · rw [s2]; exact World.ownsRow_nil _ _ _ _
end Go.Proofs.Ytdlcpfgogjcciaa
