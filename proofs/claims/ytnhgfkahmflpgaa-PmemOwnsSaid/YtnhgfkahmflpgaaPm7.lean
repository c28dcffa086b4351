/- pmem: Evict, Crash. No statement of the seat is proved here. -/
import Derived.Test.YtnhgfkahmflpgaaPm6
namespace Go.Proofs.Ytnhgfkahmflpgaa
open Go.RowKit

theorem evict_facts {N : Nat} (h : N ≤ 131072) (h8 : N % 8 = 0) : Int.tdiv ((N : Int) * 8) 64 = ((N / 8 : Nat) : Int) := by
  rw [show ((N : Int) * 8) = ((N * 8 : Nat) : Int) by simp, Int.tdiv_eq_ediv_of_nonneg (by omega)]; omega
theorem pm_evict_yes {w : World} {x : MB} {N : Nat} {S T : List UInt8} {A : List Bool} (h : PM w x N S T A) (l : Nat) (hl : l < N / 8) :
    Calls Try.prog 27 #[.pointer (some ⟨x.p, 0, none⟩), .int .i64 (l : Nat)] w fun e w' => e = .returned (.int .i64 0) ∧ PM w' x N S (mixL S T (inC (8 * l) 8)) (clrC A (8 * l) 8) ∧ Turn x.F w w' := by
  have HB := Lib.hid h.bound.2.2
  have HS := Lib.hid (pm_size h)
  obtain ⟨L, hL⟩ : ∃ L, L = N / 8 := ⟨_, rfl⟩
  have e0 := evict_facts h.bound.2.2 h.bound.1
  rw [← hL] at e0 hl
  have e1 := wrap_small (q := L) (by have := HB.out; clear e0; omega)
  have z0 : decide ((l : Int) < 0) = false := decide_eq_false (by clear e0 e1; omega)
  have z1 : decide ((L : Int) ≤ (l : Int)) = false := decide_eq_false (by clear e0 e1; omega)
  have z2 : decide (L ≤ l) = false := decide_eq_false (by clear e0 e1; omega)
  have HLL := Lib.hid (show 8 * l + 8 ≤ N by clear e0 e1; omega)
  have H := Lib.hid h
  clear h hL hl
  go_enter Try.func27, Try.ntmps27
  go_wp2_with (go_at_call 10; refine HS.out.mono ?_; rintro e w1 ⟨rfl, rfl⟩)
  refine (pm_line_keep H.out l HLL.out).mono ?_
  rintro e w4 ⟨rfl, hP2, t2⟩
  go_wp2_with fail
  go_ret
  exact ⟨rfl, hP2, t2⟩
theorem pm_evict_no {w : World} {x : MB} {N : Nat} {S T : List UInt8} {A : List Bool} (h : PM w x N S T A) (l : Int) (hl : ¬ (0 ≤ l ∧ l < ((N / 8 : Nat) : Int))) :
    Calls Try.prog 27 #[.pointer (some ⟨x.p, 0, none⟩), .int .i64 l] w fun e w' => e = .returned (.int .i64 1) ∧ w = w' := by
  have HB := Lib.hid h.bound.2.2
  have HS := Lib.hid (pm_size h)
  obtain ⟨L, hL⟩ : ∃ L, L = N / 8 := ⟨_, rfl⟩
  have e0 := evict_facts h.bound.2.2 h.bound.1
  rw [← hL] at e0 hl
  have e1 := wrap_small (q := L) (by have := HB.out; clear e0; omega)
  by_cases h0 : l < 0
  · have z0 : decide (l < 0) = true := decide_eq_true h0
    clear h hL hl e0 e1 h0
    go_enter Try.func27, Try.ntmps27
    go_wp2_with fail
    go_ret
    exact ⟨rfl, rfl⟩
  · have z0 : decide (l < 0) = false := decide_eq_false h0
    have z1 : decide ((L : Int) ≤ l) = true := decide_eq_true (by clear e0 e1; omega)
    clear h hL hl h0
    go_enter Try.func27, Try.ntmps27
    go_wp2_with (go_at_call 10; refine HS.out.mono ?_; rintro e w1 ⟨rfl, rfl⟩)
    go_ret
    exact ⟨rfl, rfl⟩

theorem cell_info : (Try.prog.info? 62).map (fun i => (i.zero, i.size, i.bytes)) = some (some (.agg #[.int .u8 0, .int .u8 0, .int .u8 0, .int .u8 0, .int .u8 0, .int .u8 0, .int .u8 0, .int .u8 0]), 8, 8) := by kernel_rfl
theorem eq_nilC (w : World) (A : Option Addr) (n c : Nat) : (binOp .eql 50 (.slice A n c) (.slice none 0 0)).run Try.prog w = .ok (.bool A.isNone) w :=
  Lib.run_eql_slice_nil w 50 62 A n c 0 0 Try.underlying50
theorem clone_cells {w : World} {g N c : Nat} {L : List UInt8} (hr : CR w g 62 8 N c (bvs L)) (hN : 8 ≤ N) (hN2 : N ≤ 131072) :
    Calls Try.prog 36 #[.slice (some ⟨g, 0, none⟩) N c] w fun e w' => ∃ g' c', e = .returned (.slice (some ⟨g', 0, none⟩) N c') ∧ CR w' g' 62 8 N c' (bvs L) ∧ w.heap.size ≤ g' ∧ Grow w w' := by
  have hq := eq_nilC
  have HN := Lib.hid hN2
  have hrd : Rd (w.alloc (.cells #[] 62)) w.heap.size (some ⟨g, 0, none⟩) 8 N (bvs L) := by
    refine ⟨hr.1, fun _ => ⟨g, 0, rfl, hr.lt, fun j u hu => ?_⟩⟩
    have := (hr.alloc (.cells #[] 62)).cell hu
    simpa using this
  have HR := Lib.hid hrd
  have HB1 := Lib.hid (show 0 + N ≤ maxLen by unfold maxLen; omega)
  have HB2 := Lib.hid (show (0 + N) * 8 ≤ 140737488355328 by omega)
  obtain ⟨i0, hi, hz, h1, h2⟩ := info_parts cell_info
  clear hrd hN2 hr
  go_enter Try.func36, Try.ntmps36
  go_wp2_with (at_builtin; refine wpList_app rfl (.tmp 5) (.tmp 6) 50 rfl w.heap.size 62 i0 _ 8 8 Try.underlying50 hi hz h1 h2 rfl (by decide) _ 0 [] rfl (World.ownsRow_made w #[] 0 (Nat.le_refl _) (by unfold maxLen; omega) rfl) w.heap.size (some ⟨g, 0, none⟩) N c (bvs L) rfl HR.out (bvs_one L) HB1.out HB2.out (by simp) ?_; intro v1 w1 hown1 hg1 hor)
  have hform := own_form hown1
  rw [Nat.zero_add, List.nil_append] at hown1
  go_ret
  obtain ⟨A', c', rfl, -, -, -, ha⟩ := hform
  rw [Nat.zero_add]
  rw [Nat.zero_add] at hown1
  have hA : A' ≠ none := by
    intro e
    subst e
    rcases hown1.2 with ⟨e1, e2⟩ | ⟨_, _, _, e1, _⟩
    · omega
    · cases e1
  cases A' with
  | none => exact absurd rfl hA
  | some a' =>
    obtain ⟨q1, q2, q3⟩ := ha a' rfl
    rw [q3] at hown1 ⊢
    exact ⟨a'.block, c', rfl, CR.of_row hown1, q1, ((Grow.refl w).alloc _).low ⟨hg1.os, hg1.tape, hg1.output, hg1.size, fun k hk => hg1.block k (by simp; omega) (fun q => by have q2 : some k = some w.heap.size := q; injection q2 with q2; omega)⟩⟩

/-- 'clear(m)'. -/
theorem SetIs.cleared {w : World} {b : Nat} {A : List Bool} (h : SetIs w b A) (ty : TypeId) : ∃ w', (Builtin.clear_ #[51] ty #[.map (some b)]).run Try.prog w = .ok (.tuple #[]) w' ∧ SetIs w' b (List.replicate A.length false) ∧ w.grownBy w' (some b) := by
  obtain ⟨D, ⟨es, clock, hb, F, hs, hD⟩, h2⟩ := h
  refine ⟨Go.ChangeMaps.setBlock w b (.map #[] clock), ?_, ⟨.map [], ⟨#[], clock, ?_, ?_, Nat.zero_le _, rfl⟩, fun kl => ?_⟩, ?_⟩
  · simp [Builtin.clear_, run_underlying Try.underlying51, MapKept.run_getObj_map hb, MapKept.run_setObj_map _ hb, Result.andThen, Go.ChangeMaps.setBlock]
  · exact Go.ChangeMaps.heap_setBlock_same hb _
  · exact ⟨by simp, Go.MapKept.stamped_empty clock, by simp⟩
  · simp [Maps.has, List.getElem?_replicate]
  · exact World.mapTurned.grown ⟨es, clock, #[], clock, hb, rfl⟩
end Go.Proofs.Ytnhgfkahmflpgaa
