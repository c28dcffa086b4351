/- plog: Records. plog: Redo. txn.over: a patch laid over bytes. commonsref08.Encode. No statement of the seat is proved here. -/
import Derived.Test.YtlinlmimakealaaZ13
import Derived.Lib.ConvBytes
import Derived.Lib.Strings
import Derived.Lib.AtoiErrMem
import Derived.Deep.RegionHeld3
import Derived.Test.YtlinlmimakealaaZ11
import Derived.Test.YtlinlmimakealaaZ06
import Derived.Lib.LazyBuf
import Derived.Deep.QuietTactic
import Derived.BigQuiet
namespace Go.Proofs.Ytlinlmimakealaa
open Go.RowKit

theorem OW.len {w : World} {base : Nat} {v : Value} {R : List RW} (h : OW w base v R) : ∃ A c, v = .slice A R.length c ∧ R.length ≤ c := by
  rcases h.1.2 with ⟨q1, q2⟩ | ⟨g, c, cur, hv, hb, hg, h3, h4⟩
  · exact ⟨none, 0, by rw [q1, q2], by omega⟩
  · exact ⟨_, c, hv, h3⟩

def RecJ (w : World) (s : MS) (B i : Nat) (u : World) : Prop := ∃ (v : Value) (R : List RW), Row u w.heap.size [v] ∧ OW u B v R ∧ R.map RW.L = (lgL s.S).take i ∧ R.length = i ∧ Grow w u
theorem recs_few (s : MS) (h : s.S.length = 1024) : (lgL s.S).length ≤ 63 := by
  have h1 := rcL_len _ (lgB s.S) (Nat.le_refl _)
  have h2 := lgE_le s.S
  rw [lgB_length h] at h1
  unfold lgL
  omega

end Go.Proofs.Ytlinlmimakealaa

namespace Go.Proofs.Ytlinlmimakealaa
open Go.RowKit

/-- The bytes of a text, in a new block. -/
theorem bytes_of (w : World) (s : ByteArray) (hs : s.size ≤ 1073741000) : Sl (Lib.bytesWorld w 5 s) (some ⟨w.heap.size, 0, none⟩) s.size s.data.toList ∧ Grow w (Lib.bytesWorld w 5 s) := by
  have hL : s.data.toList.length = s.size := (Lib.size_eq s).symm
  have hb := Lib.bytesWorld_below w 5 s
  have hsz : w.heap.size < (Lib.bytesWorld w 5 s).heap.size := by simp [Lib.bytesWorld, World.freeze]
  refine ⟨⟨hL, hs, by simp [bvs, hL], fun _ => ⟨_, _, rfl, hsz, fun j u hu => ?_⟩⟩, hb⟩
  have hj : j < s.data.toList.length := by have := (List.getElem?_eq_some_iff.1 hu).1; simpa [bvs] using this
  have h6 := Lib.bytesWorld_cell w 5 s j (by omega)
  rw [Nat.zero_add, h6, ← hu]
  simp [bvs, bv, List.getD, List.getElem?_eq_getElem hj]

def RedoInv (w wr : World) (l : Nat) (x : MB) (s : MS) (L : List PT) (t : Value) : Prop := ∃ k : Nat, t = .int .i64 (k : Int) ∧ k ≤ L.length ∧ LG wr l x (s.patches (L.take k)) ∧ Turn x.F w wr

theorem patches_step {s : MS} {L : List PT} {k : Nat} {r : PT} (h : L[k]? = some r) : s.patches (L.take (k + 1)) = (s.patches (L.take k)).patch r := by
  rw [List.take_add_one, h]
  simp [MS.patches, List.foldl_append]

section
variable {w w' : World} {lb l p bx : Nat} {r : PT} {F : Nat → Prop}
theorem redo4_grow (g : Grow w w') (h : w.cell? ⟨lb, 0, none⟩ = some (.pointer (some ⟨l, 0, none⟩)) ∧ w.cell? ⟨l, 0, none⟩ = some (.pointer (some ⟨p, 0, none⟩)) ∧ w.cell? ⟨bx, 0, none⟩ = some (.int .i64 r.pos) ∧ w.cell? ⟨bx, 1, none⟩ = some (.string r.dat)) :
    w'.cell? ⟨lb, 0, none⟩ = some (.pointer (some ⟨l, 0, none⟩)) ∧ w'.cell? ⟨l, 0, none⟩ = some (.pointer (some ⟨p, 0, none⟩)) ∧ w'.cell? ⟨bx, 0, none⟩ = some (.int .i64 r.pos) ∧ w'.cell? ⟨bx, 1, none⟩ = some (.string r.dat) :=
  ⟨g.cell h.1, g.cell h.2.1, g.cell h.2.2.1, g.cell h.2.2.2⟩
theorem Turn.cell' (t : Turn F w w') {q : Addr} {v : Value} (hc : w.cell? q = some v) (hn : ¬ F q.block) : w'.cell? q = some v := (t.cell (World.block_lt_of_cell? w q hc) hn).trans hc
theorem redo4_turn (t : Turn F w w') (h1 : ¬ F lb) (h2 : ¬ F l) (h3 : ¬ F bx) (h : w.cell? ⟨lb, 0, none⟩ = some (.pointer (some ⟨l, 0, none⟩)) ∧ w.cell? ⟨l, 0, none⟩ = some (.pointer (some ⟨p, 0, none⟩)) ∧ w.cell? ⟨bx, 0, none⟩ = some (.int .i64 r.pos) ∧ w.cell? ⟨bx, 1, none⟩ = some (.string r.dat)) :
    w'.cell? ⟨lb, 0, none⟩ = some (.pointer (some ⟨l, 0, none⟩)) ∧ w'.cell? ⟨l, 0, none⟩ = some (.pointer (some ⟨p, 0, none⟩)) ∧ w'.cell? ⟨bx, 0, none⟩ = some (.int .i64 r.pos) ∧ w'.cell? ⟨bx, 1, none⟩ = some (.string r.dat) :=
  ⟨t.cell' h.1 h1, t.cell' h.2.1 h2, t.cell' h.2.2.1 h3, t.cell' h.2.2.2 h3⟩
end
theorem bytesGrow (w : World) (s : ByteArray) : Grow w (Lib.bytesWorld w 5 s) := Lib.bytesWorld_below w 5 s

theorem pl_store_ok {w wz : World} {l : Nat} {x : MB} {s : MS} (h : LG w l x s) (r : PT) (hin : inW 1024 r.pos r.dat.size = true) (g : Grow w wz) (k c : Nat) (hk : w.heap.size ≤ k) (hs : Sl wz (some ⟨k, 0, none⟩) r.dat.size r.txt) :
    Calls Try.prog 17 #[.pointer (some ⟨x.p, 0, none⟩), .int .i64 r.pos, .slice (some ⟨k, 0, none⟩) r.dat.size c] wz fun e w' => e = .returned (.int .i64 0) ∧ LG w' l x (s.store r.pos r.txt) ∧ Turn x.F wz w' ∧ Turn x.F w w' := by
  refine (pm_storeU (h.1.keep g) hs (fun _ p hp q => ?_) r.pos).mono ?_
  · injection hp with hp
    subst hp
    have q' : x.F k := q
    have := h.1.lt k q'
    omega
  rintro e w' ⟨rfl, h5, t5⟩
  rw [show inW (8 * 128) r.pos r.dat.size = true from hin]
  have hl : r.txt.length = r.dat.size := hs.1
  refine ⟨rfl, ⟨?_, (h.2.1.keep g).turn t5 h.2.2, h.2.2⟩, t5, (Turn.grow g _).and t5⟩
  simp only [MS.store]
  rw [hl]
  exact h5
theorem store_no {s : MS} {r : PT} (hin : inW 1024 r.pos r.dat.size = false) : s.store r.pos r.txt = s := by
  unfold MS.store storeS storeA
  rw [PT.txt_length, show inW (8 * 128) r.pos r.dat.size = false from hin]
  rfl
theorem pl_store_no {w wz : World} {l : Nat} {x : MB} {s : MS} (h : LG w l x s) (r : PT) (hin : inW 1024 r.pos r.dat.size = false) (g : Grow w wz) (k c : Nat) (hk : w.heap.size ≤ k) (hs : Sl wz (some ⟨k, 0, none⟩) r.dat.size r.txt) :
    Calls Try.prog 17 #[.pointer (some ⟨x.p, 0, none⟩), .int .i64 r.pos, .slice (some ⟨k, 0, none⟩) r.dat.size c] wz fun e w' => e = .returned (.int .i64 1) ∧ LG w' l x s ∧ Turn x.F wz w' ∧ Turn x.F w w' := by
  refine (pm_storeU (h.1.keep g) hs (fun _ p hp q => ?_) r.pos).mono ?_
  · injection hp with hp
    subst hp
    have q' : x.F k := q
    have := h.1.lt k q'
    omega
  rintro e w' ⟨rfl, h5, t5⟩
  rw [show inW (8 * 128) r.pos r.dat.size = false from hin]
  have hl : r.txt.length = r.dat.size := hs.1
  refine ⟨rfl, ⟨?_, (h.2.1.keep g).turn t5 h.2.2, h.2.2⟩, t5, (Turn.grow g _).and t5⟩
  have e := store_no (s := s) hin
  rw [← e]
  simp only [MS.store]
  rw [hl]
  exact h5
theorem pl_flush_at {w wz : World} {l : Nat} {x : MB} {s : MS} (h : LG w l x s) (r : PT) (hr : r.dat.size ≤ 1000) (g : Grow w wz) :
    Calls Try.prog 18 #[.pointer (some ⟨x.p, 0, none⟩), .int .i64 r.pos, .int .i64 (r.dat.size : Nat)] wz fun e w' => ∃ er, e = .returned (.int .i64 er) ∧ LG w' l x (s.flush r.pos r.dat.size) ∧ Turn x.F wz w' ∧ Turn x.F w w' := by
  refine (pm_flushU (h.1.keep g) r.pos (r.dat.size : Nat) (by omega) (by omega)).mono ?_
  rintro e w' ⟨rfl, h5, t5⟩
  exact ⟨_, rfl, ⟨h5, (h.2.1.keep g).turn t5 h.2.2, h.2.2⟩, t5, (Turn.grow g _).and t5⟩

set_option maxHeartbeats 8000000 in
set_option maxRecDepth 8000 in
theorem pl_redo1 {w : World} {l mb lb i : Nat} {x : MB} {s : MS} (h : LG w l x s) (hm : Row w mb [.int .i64 (i : Int)]) (hb : Blk w lb [.pointer (some ⟨l, 0, none⟩)]) (hmF : ¬ x.F mb) (hbF : ¬ x.F lb) (hne : mb ≠ lb) (hml : mb ≠ l) (hi : i ≤ 1000)
    {b0 : Nat} {u : Value} {L : List PT} (hu : OP w b0 u L) (hb0 : ∀ k, x.F k → k < b0) (hmb : mb < b0) (hL : L.length ≤ 1000) (hw : ∀ p ∈ L, p.dat.size ≤ 1000) :
    Calls Try.prog 46 #[u, .pointer (some ⟨mb, 0, none⟩), .pointer (some ⟨lb, 0, none⟩)] w fun e w' => e = .returned (.tuple #[]) ∧ Row w' mb [.int .i64 ((i : Int) + 1)] ∧ LG w' l x (s.patches L) ∧ Turn (fun k => k = mb ∨ x.F k) w w' := by
  have c0 := hm.1.c1
  have f0 := hm.2 0 (by simp)
  obtain ⟨A, c, rfl, hc, -⟩ := hu.rp (by omega)
  obtain ⟨w1, hw1⟩ : ∃ w1, w1 = w.setCell ⟨mb, 0, none⟩ (.int .i64 ((i : Int) + 1)) := ⟨_, rfl⟩
  have t1 : Turn (fun k => k = mb) w w1 := by rw [hw1]; exact Turn.setCell (F := fun k => k = mb) _ (p := ⟨mb, 0, none⟩) rfl _
  have H1 := Lib.hid (show LG w1 l x s from h.turn t1 (fun k hk q => hmF (hk ▸ q)) (fun q => hml q.symm))
  have M1 := Lib.hid (show Row w1 mb [.int .i64 ((i : Int) + 1)] by rw [hw1]; simpa using hm.set (j := 0) (v := .int .i64 ((i : Int) + 1)) (by simp))
  have B1 := Lib.hid (show Blk w1 lb [.pointer (some ⟨l, 0, none⟩)] from hb.turn t1 (fun q => hne q.symm))
  have O1 := Lib.hid (show OP w1 b0 (.slice A L.length c) L from hu.turn t1 (fun g hg q => by have := (World.ownsRow.lt hu g hg).1; omega))
  have HT1 := Lib.hid t1
  have HW1 := Lib.hid hw1
  have HRP := Lib.hid (show RP w1 A L.length L by obtain ⟨A', c', e, -, q⟩ := O1.out.rp (by omega); injection e with e1 e2 e3; subst e1; exact q)
  have HAF := Lib.hid (show 0 < L.length → ∀ p, A = some p → ¬ x.F p.block from fun h0 p hp q => by
    have q1 := own_none (.slice A L.length c)
    have q2 := hb0 _ q
    have q3 := (World.ownsRow.lt O1.out p.block (by rw [hp]; rfl)).1
    omega)
  have HB0 := Lib.hid hb0
  have HWW := Lib.hid hw
  obtain ⟨n, hn⟩ : ∃ n, n = L.length := ⟨_, rfl⟩
  rw [← hn] at O1 HRP HAF
  have HN := Lib.hid hn
  rw [← hn] at hL ⊢
  clear h hm hb hu t1 hw1 hb0 hw hc hn
  go_enter Try.func46, Try.ntmps46
  go_wp2_with fail
  rw [← HW1.out]
  clear c0 f0
  go_loopw [10] (fun t wr => RedoInv w1 wr l x s L t) (fun t _ => n - (intOf t).toNat)
  case atStart => exact ⟨0, by simp, Nat.zero_le _, H1.out, Turn.refl _ _⟩
  case round =>
    obtain ⟨k, rfl, hk, hlg, ht⟩ := hrel
    have HLG := Lib.hid hlg
    have HT := Lib.hid ht
    have hk' : k ≤ n := by rw [HN.out]; exact hk
    clear hlg ht hk
    by_cases hlt : k < n
    · have R1 : RP wr A n L := RP.turn HRP.out HT.out HAF.out
      obtain ⟨b, o, r, hrk, rfl, hb, d0, d1⟩ := R1.at_ hlt
      have hrm : r.dat.size ≤ 1000 := HWW.out r (List.mem_of_getElem? hrk)
      have HRK := Lib.hid (patches_step (s := s) hrk)
      have bl := (B1.out.turn HT.out hbF).c1
      have cl := HLG.out.2.1.c3.1
      obtain ⟨s1, hs1⟩ : ∃ s1, s1 = s.patches (L.take k) := ⟨_, rfl⟩
      rw [← hs1] at HLG HRK
      have HS1 := Lib.hid hs1
      clear hrk R1 hs1
      cases hin : inW 1024 r.pos r.dat.size with
      | true =>
        have HIN := Lib.hid hin
        clear hin
        go_wp2_with fail
        obtain ⟨wa, hwa⟩ : ∃ wa, wa = wr.alloc (.cells #[.int .i64 r.pos, .string r.dat] 37) := ⟨_, rfl⟩
        obtain ⟨bx, hbx⟩ : ∃ bx, bx = wr.heap.size := ⟨_, rfl⟩
        have NB := Row.new wr 37 [.int .i64 r.pos, .string r.dat] _ rfl
        have gA := (Grow.refl wr).alloc (.cells #[.int .i64 r.pos, .string r.dat] 37)
        rw [← hwa, ← hbx] at NB
        rw [← hwa] at gA
        have HGA := Lib.hid gA
        have hbF2 : ¬ x.F bx := fun q => by have := HLG.out.1.lt bx q; omega
        have hwz : wr.heap.size ≤ wa.heap.size := gA.size
        have hsS : (wa.cell? ⟨lb, 0, none⟩ = some (.pointer (some ⟨l, 0, none⟩)) ∧ wa.cell? ⟨l, 0, none⟩ = some (.pointer (some ⟨x.p, 0, none⟩)) ∧ wa.cell? ⟨bx, 0, none⟩ = some (.int .i64 r.pos) ∧ wa.cell? ⟨bx, 1, none⟩ = some (.string r.dat)) := ⟨gA.cell bl, gA.cell cl, NB.1.c2.1, NB.1.c2.2⟩
        have HFS := Lib.hid (And.intro hbF (And.intro HLG.out.2.2 hbF2))
        rw [← hwa, ← hbx]
        have kc := fun (u : World) => Lib.run_convert_string_bytes (P := Try.prog) u 9 22 5 r.dat Try.underlying9 Try.underlying22 Try.underlying5
        clear hwa hbx NB gA d0 d1 bl cl
        refine wp_region_held_drew (S := fun w' => w'.cell? ⟨lb, 0, none⟩ = some (.pointer (some ⟨l, 0, none⟩)) ∧ w'.cell? ⟨l, 0, none⟩ = some (.pointer (some ⟨x.p, 0, none⟩)) ∧ w'.cell? ⟨bx, 0, none⟩ = some (.int .i64 r.pos) ∧ w'.cell? ⟨bx, 1, none⟩ = some (.string r.dat)) (by kernel_rfl) ?_ (fun hHeld => ?_)
        · exact hsS
        refine wpAnyH_take (i := 0) (oi := _) (v := ?_) rfl (by kernel_rfl) (by kernel_rfl) (by kernel_rfl) (fun _ _ _ h => h) (Or.inl ⟨by rfl, ?_⟩) (by assumption) ?_
        rotate_left
        · (intro w hSw; (try dsimp only at hSw); go_simp; (try with_reducible rfl))
        simp only [Act.put, List.setIfInBounds_toArray]
        refine wpAnyH_take (i := 1) (oi := _) (v := ?_) rfl (by kernel_rfl) (by kernel_rfl) (by kernel_rfl) (fun _ _ _ h => h) (Or.inl ⟨by rfl, ?_⟩) (by assumption) ?_
        rotate_left
        · (intro w hSw; (try dsimp only at hSw); go_simp; (try with_reducible rfl))
        simp only [Act.put]
        refine wpAnyH_take (i := 2) (oi := _) (v := ?_) rfl (by kernel_rfl) (by kernel_rfl) (by kernel_rfl) (fun _ _ _ h => h) (Or.inl ⟨by rfl, ?_⟩) (by assumption) ?_
        rotate_left
        · (intro w hSw; (try dsimp only at hSw); go_simp; (try with_reducible rfl))
        simp only [Act.put]
        refine wpAnyH_take (i := 3) (oi := _) (v := ?_) rfl (by kernel_rfl) (by kernel_rfl) (by kernel_rfl) (fun _ _ _ h => h) (Or.inl ⟨by rfl, ?_⟩) (by assumption) ?_
        rotate_left
        · (intro w hSw; (try dsimp only at hSw); go_simp; (try with_reducible rfl))
        simp only [Act.put]
        refine wpAnyH_take (i := 4) (oi := _) (v := ?_) rfl (by kernel_rfl) (by kernel_rfl) (by kernel_rfl) (fun _ _ _ h => h) (Or.inl ⟨by rfl, ?_⟩) (by assumption) ?_
        rotate_left
        · (intro w hSw; (try dsimp only at hSw); go_simp; (try with_reducible rfl))
        simp only [Act.put]
        refine wpAnyH_take (i := 5) (oi := _) (v := ?_) rfl (by kernel_rfl) (by kernel_rfl) (by kernel_rfl) (fun _ _ _ h => h) (Or.inl ⟨by rfl, ?_⟩) (by assumption) ?_
        rotate_left
        · (intro w hSw; (try dsimp only at hSw); go_simp; (try with_reducible rfl))
        simp only [Act.put]
        refine wpAnyH_take (i := 6) (oi := _) (v := ?_) rfl (by kernel_rfl) (by kernel_rfl) (by kernel_rfl) (fun _ _ _ h => h) (Or.inl ⟨by rfl, ?_⟩) (by assumption) ?_
        rotate_left
        · (intro w hSw; (try dsimp only at hSw); go_simp; (try with_reducible rfl))
        simp only [Act.put]
        refine wpAnyH_take (i := 7) (oi := _) (v := ?_) rfl (by kernel_rfl) (by kernel_rfl) (by kernel_rfl) (fun _ _ _ h => h) (Or.inl ⟨by rfl, ?_⟩) (by assumption) ?_
        rotate_left
        · (intro w hSw; (try dsimp only at hSw); go_simp; (try with_reducible rfl))
        simp only [Act.put]
        refine wpAnyH_ready (rs := [8]) (by kernel_rfl) (by simp) ?_
        refine AllReadyH.cons (o := _) rfl (fun K hK => ?_) AllReadyH.nil
        go_simp
        refine hK.out _ _ (redo4_grow (bytesGrow _ _) (by assumption)) (fun hHeld2 => ?_)
        clear hK K
        refine wpAnyH_ready (rs := [9]) (by kernel_rfl) (by simp) ?_
        refine AllReadyH.cons (o := _) rfl (fun K hK => ?_) AllReadyH.nil
        go_simp
        refine (pl_store_ok HLG.out r HIN.out ?_ _ _ ?_ ?_).mono ?_; (repeat (first | exact Grow.refl _ | exact HGA.out | refine Grow.drew ?_ | refine Grow.drewN ?_ _ | refine Grow.trans ?_ (bytesGrow _ _))); (first | exact hwz | (simp; exact hwz)); (first | exact (bytes_of _ _ (by omega)).1 | exact (bytes_of _ _ (by omega)).1.drew); rintro e w5 ⟨rfl, h5, t5, t6⟩; have hs5 := redo4_turn (r := r) t5 HFS.out.1 HFS.out.2.1 HFS.out.2.2 (by assumption)
        refine hK.out _ _ hs5 (fun hHeld5 => ?_)
        clear hK K
        refine wpAnyH_take (i := 10) (oi := { dst := some 24, op := .binOp .eql 25 (.tmp 23) (.const (.int .i64 0)) 25, type := 4, pos := "plog.go:162", after := #[{ on := 9, ground := .data }], guard := none }) (v := ?_) rfl (by kernel_rfl) (by kernel_rfl) (by kernel_rfl) (fun _ _ _ h => h) (Or.inl ⟨by rfl, ?_⟩) (by assumption) ?_
        rotate_left
        · (intro w hSw; (try dsimp only at hSw); go_simp; (try with_reducible rfl))
        simp only [Act.put, List.setIfInBounds_toArray]
        refine wpAnyH_done (by kernel_rfl) ?_ _
        all_goals
          have H5 := Lib.hid h5
          have HT5 := Lib.hid (HT.out.and t6)
          clear h5 t5 t6 kc hsS
          go_wp2_with fail
          go_region_held3 (fun w' => w'.cell? ⟨lb, 0, none⟩ = some (.pointer (some ⟨l, 0, none⟩)) ∧ w'.cell? ⟨l, 0, none⟩ = some (.pointer (some ⟨x.p, 0, none⟩)) ∧ w'.cell? ⟨bx, 0, none⟩ = some (.int .i64 r.pos) ∧ w'.cell? ⟨bx, 1, none⟩ = some (.string r.dat)) (first | exact hs5 | exact hs6) ((go_at_call 18; go_loud (refine (pl_flush_at H5.out r (by omega) ?_).mono ?_; (repeat (first | exact Grow.refl _ | refine Grow.drew ?_ | refine Grow.drewN ?_ _)); rintro e w6 ⟨er, rfl, h6, t6, t7⟩; have hs6 := redo4_turn (r := r) t6 HFS.out.1 HFS.out.2.1 HFS.out.2.2 (by assumption))))
          all_goals
            have H6 := Lib.hid h6
            have HT7 := Lib.hid (HT5.out.and t7)
            clear h6 t6 t7 hs5 hs6
            have X : RedoInv w1 w6 l x s L (.int .i64 ((k : Int) + 1)) := ⟨k + 1, by simp, by have := HN.out; omega, by rw [HRK.out, MS.patch, if_pos HIN.out]; exact H6.out, HT7.out⟩
            have HX := Lib.hid X
            clear X
            go_wp2_with fail
            have e5 : wrap64 ((k : Int) + 1) = (k : Int) + 1 := IntWalk.wrap64_in _ (by omega)
            go_roundw
            case rel => (try rw [e5]); first | exact HX.out | ((repeat apply Exists.intro); exact HX.out) | ((repeat apply Exists.intro); refine ⟨HX.out, ?_⟩; rfl)
            case measure => first | exact measP hlt | exact measPW hlt e5
      | false =>
        have HIN := Lib.hid hin
        clear hin
        go_wp2_with fail
        obtain ⟨wa, hwa⟩ : ∃ wa, wa = wr.alloc (.cells #[.int .i64 r.pos, .string r.dat] 37) := ⟨_, rfl⟩
        obtain ⟨bx, hbx⟩ : ∃ bx, bx = wr.heap.size := ⟨_, rfl⟩
        have NB := Row.new wr 37 [.int .i64 r.pos, .string r.dat] _ rfl
        have gA := (Grow.refl wr).alloc (.cells #[.int .i64 r.pos, .string r.dat] 37)
        rw [← hwa, ← hbx] at NB
        rw [← hwa] at gA
        have HGA := Lib.hid gA
        have hbF2 : ¬ x.F bx := fun q => by have := HLG.out.1.lt bx q; omega
        have hwz : wr.heap.size ≤ wa.heap.size := gA.size
        have hsS : (wa.cell? ⟨lb, 0, none⟩ = some (.pointer (some ⟨l, 0, none⟩)) ∧ wa.cell? ⟨l, 0, none⟩ = some (.pointer (some ⟨x.p, 0, none⟩)) ∧ wa.cell? ⟨bx, 0, none⟩ = some (.int .i64 r.pos) ∧ wa.cell? ⟨bx, 1, none⟩ = some (.string r.dat)) := ⟨gA.cell bl, gA.cell cl, NB.1.c2.1, NB.1.c2.2⟩
        have HFS := Lib.hid (And.intro hbF (And.intro HLG.out.2.2 hbF2))
        rw [← hwa, ← hbx]
        have kc := fun (u : World) => Lib.run_convert_string_bytes (P := Try.prog) u 9 22 5 r.dat Try.underlying9 Try.underlying22 Try.underlying5
        clear hwa hbx NB gA d0 d1 bl cl
        refine wp_region_held_drew (S := fun w' => w'.cell? ⟨lb, 0, none⟩ = some (.pointer (some ⟨l, 0, none⟩)) ∧ w'.cell? ⟨l, 0, none⟩ = some (.pointer (some ⟨x.p, 0, none⟩)) ∧ w'.cell? ⟨bx, 0, none⟩ = some (.int .i64 r.pos) ∧ w'.cell? ⟨bx, 1, none⟩ = some (.string r.dat)) (by kernel_rfl) ?_ (fun hHeld => ?_)
        · exact hsS
        refine wpAnyH_take (i := 0) (oi := _) (v := ?_) rfl (by kernel_rfl) (by kernel_rfl) (by kernel_rfl) (fun _ _ _ h => h) (Or.inl ⟨by rfl, ?_⟩) (by assumption) ?_
        rotate_left
        · (intro w hSw; (try dsimp only at hSw); go_simp; (try with_reducible rfl))
        simp only [Act.put, List.setIfInBounds_toArray]
        refine wpAnyH_take (i := 1) (oi := _) (v := ?_) rfl (by kernel_rfl) (by kernel_rfl) (by kernel_rfl) (fun _ _ _ h => h) (Or.inl ⟨by rfl, ?_⟩) (by assumption) ?_
        rotate_left
        · (intro w hSw; (try dsimp only at hSw); go_simp; (try with_reducible rfl))
        simp only [Act.put]
        refine wpAnyH_take (i := 2) (oi := _) (v := ?_) rfl (by kernel_rfl) (by kernel_rfl) (by kernel_rfl) (fun _ _ _ h => h) (Or.inl ⟨by rfl, ?_⟩) (by assumption) ?_
        rotate_left
        · (intro w hSw; (try dsimp only at hSw); go_simp; (try with_reducible rfl))
        simp only [Act.put]
        refine wpAnyH_take (i := 3) (oi := _) (v := ?_) rfl (by kernel_rfl) (by kernel_rfl) (by kernel_rfl) (fun _ _ _ h => h) (Or.inl ⟨by rfl, ?_⟩) (by assumption) ?_
        rotate_left
        · (intro w hSw; (try dsimp only at hSw); go_simp; (try with_reducible rfl))
        simp only [Act.put]
        refine wpAnyH_take (i := 4) (oi := _) (v := ?_) rfl (by kernel_rfl) (by kernel_rfl) (by kernel_rfl) (fun _ _ _ h => h) (Or.inl ⟨by rfl, ?_⟩) (by assumption) ?_
        rotate_left
        · (intro w hSw; (try dsimp only at hSw); go_simp; (try with_reducible rfl))
        simp only [Act.put]
        refine wpAnyH_take (i := 5) (oi := _) (v := ?_) rfl (by kernel_rfl) (by kernel_rfl) (by kernel_rfl) (fun _ _ _ h => h) (Or.inl ⟨by rfl, ?_⟩) (by assumption) ?_
        rotate_left
        · (intro w hSw; (try dsimp only at hSw); go_simp; (try with_reducible rfl))
        simp only [Act.put]
        refine wpAnyH_take (i := 6) (oi := _) (v := ?_) rfl (by kernel_rfl) (by kernel_rfl) (by kernel_rfl) (fun _ _ _ h => h) (Or.inl ⟨by rfl, ?_⟩) (by assumption) ?_
        rotate_left
        · (intro w hSw; (try dsimp only at hSw); go_simp; (try with_reducible rfl))
        simp only [Act.put]
        refine wpAnyH_take (i := 7) (oi := _) (v := ?_) rfl (by kernel_rfl) (by kernel_rfl) (by kernel_rfl) (fun _ _ _ h => h) (Or.inl ⟨by rfl, ?_⟩) (by assumption) ?_
        rotate_left
        · (intro w hSw; (try dsimp only at hSw); go_simp; (try with_reducible rfl))
        simp only [Act.put]
        refine wpAnyH_ready (rs := [8]) (by kernel_rfl) (by simp) ?_
        refine AllReadyH.cons (o := _) rfl (fun K hK => ?_) AllReadyH.nil
        go_simp
        refine hK.out _ _ (redo4_grow (bytesGrow _ _) (by assumption)) (fun hHeld2 => ?_)
        clear hK K
        refine wpAnyH_ready (rs := [9]) (by kernel_rfl) (by simp) ?_
        refine AllReadyH.cons (o := _) rfl (fun K hK => ?_) AllReadyH.nil
        go_simp
        refine (pl_store_no HLG.out r HIN.out ?_ _ _ ?_ ?_).mono ?_; (repeat (first | exact Grow.refl _ | exact HGA.out | refine Grow.drew ?_ | refine Grow.drewN ?_ _ | refine Grow.trans ?_ (bytesGrow _ _))); (first | exact hwz | (simp; exact hwz)); (first | exact (bytes_of _ _ (by omega)).1 | exact (bytes_of _ _ (by omega)).1.drew); rintro e w5 ⟨rfl, h5, t5, t6⟩; have hs5 := redo4_turn (r := r) t5 HFS.out.1 HFS.out.2.1 HFS.out.2.2 (by assumption)
        refine hK.out _ _ hs5 (fun hHeld5 => ?_)
        clear hK K
        refine wpAnyH_take (i := 10) (oi := { dst := some 24, op := .binOp .eql 25 (.tmp 23) (.const (.int .i64 0)) 25, type := 4, pos := "plog.go:162", after := #[{ on := 9, ground := .data }], guard := none }) (v := ?_) rfl (by kernel_rfl) (by kernel_rfl) (by kernel_rfl) (fun _ _ _ h => h) (Or.inl ⟨by rfl, ?_⟩) (by assumption) ?_
        rotate_left
        · (intro w hSw; (try dsimp only at hSw); go_simp; (try with_reducible rfl))
        simp only [Act.put, List.setIfInBounds_toArray]
        refine wpAnyH_done (by kernel_rfl) ?_ _
        all_goals
          have H5 := Lib.hid h5
          have HT5 := Lib.hid (HT.out.and t6)
          clear h5 t5 t6 kc hsS
          clear hs5
          have X : RedoInv w1 w5 l x s L (.int .i64 ((k : Int) + 1)) := ⟨k + 1, by simp, by have := HN.out; omega, by rw [HRK.out, MS.patch, if_neg (by rw [HIN.out]; simp)]; exact H5.out, HT5.out⟩
          have HX := Lib.hid X
          clear X
          go_wp2_with fail
          have e5 : wrap64 ((k : Int) + 1) = (k : Int) + 1 := IntWalk.wrap64_in _ (by omega)
          go_roundw
          case rel => (try rw [e5]); first | exact HX.out | ((repeat apply Exists.intro); exact HX.out) | ((repeat apply Exists.intro); refine ⟨HX.out, ?_⟩; rfl)
          case measure => first | exact measP hlt | exact measPW hlt e5
    · obtain rfl : k = n := by omega
      have HLE := Lib.hid (show s.patches (L.take k) = s.patches L by rw [List.take_of_length_le (by rw [← HN.out]; exact Nat.le_refl _)])
      clear hlt
      go_wp2_with fail
      go_end0
      refine ⟨rfl, M1.out.turn HT.out hmF, by rw [← HLE.out]; exact HLG.out, ?_⟩
      exact (HT1.out.mono fun i hi => .inl hi).and (HT.out.mono fun i hi => .inr hi)

def RedoJ (w : World) (l : Nat) (x : MB) (s : MS) (_B i : Nat) (u : World) : Prop := Row u (w.heap.size + 1) [.int .i64 (i : Int)] ∧ Blk u w.heap.size [.pointer (some ⟨l, 0, none⟩)] ∧ LG u l x (s.redone ((lgL s.S).take i)) ∧ Turn x.F w u
theorem redone_step {s : MS} {R : List (List PT)} {i : Nat} {L : List PT} (h : R[i]? = some L) : s.redone (R.take (i + 1)) = (s.redone (R.take i)).patches L := by
  rw [List.take_add_one, h]
  simp [MS.redone, List.foldl_append]

theorem dpL_few {b : List UInt8} : (dpL b).length ≤ 64 ∧ ∀ p ∈ dpL b, p.dat.size ≤ 256 := by
  by_cases h : dpE b = 0
  · obtain ⟨h1, -, -, -⟩ := dp_can h
    obtain ⟨h2, h3⟩ := mayP_iff.1 h1
    exact ⟨h2, fun p hp => (PT.may_iff.1 (List.all_eq_true.1 h3 p hp)).2⟩
  · rw [dpL, if_neg h]; simp
theorem rcL_few : ∀ (n : Nat) (b : List UInt8), b.length ≤ n → ∀ L ∈ rcL b, L.length ≤ 64 ∧ ∀ p ∈ L, p.dat.size ≤ 256
  | n, b, hn => by
    by_cases h : dpE b = 0
    · have h1 := dpU_pos h
      rw [rcL_go h]
      intro L hL
      rcases List.mem_cons.1 hL with rfl | hL
      · exact dpL_few
      match n with
      | 0 => omega
      | n + 1 => exact rcL_few n (b.drop (dpU b)) (by rw [List.length_drop]; omega) L hL
    · rw [rcL_end h]; intro L hL; simp at hL

set_option maxHeartbeats 4000000 in
set_option maxRecDepth 8000 in
theorem pl_redo {w : World} {l : Nat} {x : MB} {s : MS} (h : LG w l x s) :
    Calls Try.prog 22 #[.pointer (some ⟨l, 0, none⟩)] w fun e w' => e = .returned (.int .i64 ((lgL s.S).length : Nat)) ∧ LG w' l x s.redo ∧ Turn x.F w w' := by
  have H := Lib.hid h
  have HF := Lib.hid (recs_few s h.lenS)
  have HLT := Lib.hid h.1.lt
  have hlw := h.2.1.1
  clear h
  go_enter Try.func22, Try.ntmps22
  go_wp2_with fail
  have g0 : Grow w ((w.alloc (.cells #[.pointer (some ⟨l, 0, none⟩)] 27)).alloc (.cells #[.int .i64 0] 3)) := ((Grow.refl w).alloc _).alloc _
  have hsz : ((w.alloc (.cells #[.pointer (some ⟨l, 0, none⟩)] 27)).alloc (.cells #[.int .i64 0] 3)).heap.size = w.heap.size + 2 := by simp
  have HB0 : Blk ((w.alloc (.cells #[.pointer (some ⟨l, 0, none⟩)] 27)).alloc (.cells #[.int .i64 0] 3)) w.heap.size [.pointer (some ⟨l, 0, none⟩)] := (Blk.new w _ [.pointer (some ⟨l, 0, none⟩)] _ (0, 0) rfl).keep ((Grow.refl _).alloc _)
  have HR0 : Row ((w.alloc (.cells #[.pointer (some ⟨l, 0, none⟩)] 27)).alloc (.cells #[.int .i64 0] 3)) (w.heap.size + 1) [.int .i64 ((0 : Nat) : Int)] := by
    have := Row.new (w.alloc (.cells #[.pointer (some ⟨l, 0, none⟩)] 27)) 3 [.int .i64 0] _ rfl
    simpa using this
  obtain ⟨w1, hw1⟩ : ∃ w1, w1 = (w.alloc (.cells #[.pointer (some ⟨l, 0, none⟩)] 27)).alloc (.cells #[.int .i64 0] 3) := ⟨_, rfl⟩
  rw [← hw1] at g0 hsz HB0 HR0 ⊢
  clear hw1
  have hmF : ¬ x.F (w.heap.size + 1) := fun q => by have := HLT.out _ q; omega
  have hbF : ¬ x.F w.heap.size := fun q => by have := HLT.out _ q; omega
  refine (pl_each (H.out.keep g0) 46 #[.pointer (some ⟨w.heap.size + 1, 0, none⟩), .pointer (some ⟨w.heap.size, 0, none⟩)] (enters Try.func46 (by kernel_rfl) rfl) (RedoJ w l x s) ?_ ?_ ?_).mono ?_
  · intro u g
    exact ⟨HR0.keep g, HB0.keep g, H.out.keep (g0.trans g), Turn.grow (g0.trans g) _⟩
  · rintro B i u u' ⟨h1, h2, h3, h4⟩ g
    exact ⟨h1.keep g, h2.keep g, h3.keep g, h4.andGrow g⟩
  · rintro B i u0 u v L ⟨h1, h2, h3, h4⟩ g hB hB0 hL hO
    have hiL : i < (lgL s.S).length := (List.getElem?_eq_some_iff.1 hL).1
    have hfew := rcL_few _ (lgB s.S) (Nat.le_refl _) L (List.mem_of_getElem? hL)
    rw [hsz] at hB
    refine (pl_redo1 (h3.keep g) (h1.keep g) (h2.keep g) hmF hbF (by omega) (by omega) (by have := HF.out; omega) hO (fun k hk => by have := HLT.out k hk; omega) (by omega) (by omega) (fun p hp => by have := hfew.2 p hp; omega)).mono ?_
    rintro e w' ⟨rfl, r1, r2, r3⟩
    refine ⟨rfl, ⟨by simpa using r1, (h2.keep g).turn r3 (fun q => q.elim (fun q => by omega) hbF), by rw [redone_step hL]; exact r2, (h4.andGrow g).trans r3 (fun k hk => hk.elim (fun q => .inr (by omega)) (fun q => .inl q))⟩, r3.mono fun k hk => ?_⟩
    rw [hsz]
    rcases hk with rfl | hk
    · omega
    · have := HLT.out k hk; omega
  rintro e w2 ⟨rfl, B, hB1, hB2, h1, h2, h3, h4⟩
  rw [List.take_of_length_le (Nat.le_refl _)] at h3
  have H2 := Lib.hid h3
  have HR2 := Lib.hid h1
  have HB2 := Lib.hid h2
  have HT2 := Lib.hid h4
  have c0 := h3.2.1.c3.1
  have b0 := h2.c1
  obtain ⟨N, hN⟩ : ∃ N, N = (lgL s.S).length := ⟨_, rfl⟩
  rw [← hN] at HR2
  have HNN := Lib.hid hN
  clear h1 h2 h3 h4 hN HB0 HR0 hB1 hB2
  go_wp2_with fail
  refine (pm_fence H2.out.1).mono ?_
  rintro e w3 ⟨rfl, hP3, t3⟩
  have H3 := Lib.hid (show LG w3 l x (s.redone (lgL s.S)).fence from ⟨hP3, H2.out.2.1.turn t3 H2.out.2.2, H2.out.2.2⟩)
  have HT3 := Lib.hid (HT2.out.and t3)
  have HR3 := Lib.hid (HR2.out.turn t3 hmF)
  have HB3 := Lib.hid (HB2.out.turn t3 hbF)
  have b1 := HB3.out.c1
  clear hP3 t3 c0 b0
  go_wp2_with fail
  refine (pl_clear H3.out).mono ?_
  rintro e w4 ⟨rfl, h4, t4⟩
  have H4 := Lib.hid h4
  have HT4 := Lib.hid (HT3.out.and t4)
  have HR4 := Lib.hid (HR3.out.turn t4 hmF)
  have m0 := HR4.out.1.c1
  clear h4 t4 b1
  go_wp2_with fail
  go_ret
  exact ⟨ret_int (by rw [HNN.out]), H4.out, HT4.out⟩
end Go.Proofs.Ytlinlmimakealaa

namespace Go.Proofs.Ytlinlmimakealaa
open Go.RowKit

/-- The block of an address. -/
def BlkA (A : Option Addr) (k : Nat) : Prop := ∃ p, A = some p ∧ p.block = k
theorem Own.keep {w w' : World} {base n c : Nat} {A : Option Addr} {bs : List UInt8} (h : Own w base A n c bs) (g : Grow w w') : Own w' base A n c bs := ⟨h.1, h.2.1, World.ownsRow.kept h.2.2 (grow_by g) (own_none' _)⟩
theorem Own.set1 {w : World} {base n c g : Nat} {bs : List UInt8} (h : Own w base (some ⟨g, 0, none⟩) n c bs) (i : Nat) (u : UInt8) : Own (w.setCell ⟨g, i, none⟩ (.int .u8 (u.toNat : Int))) base (some ⟨g, 0, none⟩) n c (bs.set i u) := by
  obtain ⟨h1, h2, h3⟩ := h
  refine ⟨by simpa using h1, h2, ?_⟩
  have h4 : w.ownsRow base 5 1 (.slice (some ⟨g, 0, none⟩) n c) n (bvs bs) := by have := h3; unfold OB at this; rwa [h1] at this
  have h5 := (World.ownsRow.stored h4 i (.int .u8 (u.toNat : Int))).1
  unfold OB
  rw [List.length_set, h1]
  have e : bvs (bs.set i u) = (bvs bs).set i (.int .u8 (u.toNat : Int)) := by simp [bvs, List.map_set, bv]
  rw [e]
  exact h5
theorem Own.puts {base n c g : Nat} (L : List UInt8) : ∀ {w : World} {bs : List UInt8} (o : Nat), Own w base (some ⟨g, 0, none⟩) n c bs → Own (w.setCells g o (L.map fun x => Value.int .u8 (x.toNat : Int))) base (some ⟨g, 0, none⟩) n c (putL bs o L) ∧ Turn (BlkA (some ⟨g, 0, none⟩)) w (w.setCells g o (L.map fun x => Value.int .u8 (x.toNat : Int))) := by
  induction L with
  | nil => intro w bs o h; exact ⟨h, Turn.refl _ _⟩
  | cons u L ih =>
    intro w bs o h
    obtain ⟨h1, h2⟩ := ih (o + 1) (h.set1 o u)
    exact ⟨h1, (Turn.setCell w (p := ⟨g, o, none⟩) ⟨_, rfl, rfl⟩ _).and h2⟩
theorem Own.look {w : World} {base n c g : Nat} {bs : List UInt8} (h : Own w base (some ⟨g, 0, none⟩) n c bs) (j : Nat) (hj : j < n) : (w.cell? ⟨g, j, none⟩).isSome = true ∧ w.frozen? ⟨g, j, none⟩ = false := by
  obtain ⟨h1, h2, h3⟩ := h
  have h4 : w.ownsRow base 5 1 (.slice (some ⟨g, 0, none⟩) n c) n (bvs bs) := by have := h3; unfold OB at this; rwa [h1] at this
  refine ⟨?_, World.ownsRow.frozenAt h4 j⟩
  rw [World.ownsRow.cellAt h4 j (by omega), List.getElem?_eq_getElem (by rw [bvs_length]; omega)]
  rfl
/-- 'copy(dst, s)', s a string no shorter than dst. -/
theorem run_copy_cut {P : Program} (w : World) (dT sT ty elem : TypeId) (b o dLen dCap : Nat) (t : ByteArray)
    (hu : P.underlying dT = some (.slice elem)) (hz : ∀ w, (Go.sizeOf elem).run P w = .ok 1 w) (hle : dLen ≤ t.size)
    (hc : ∀ j, j < dLen → (w.cell? ⟨b, o + j, none⟩).isSome = true) (hf : ∀ j, j < dLen → w.frozen? ⟨b, o + j, none⟩ = false) :
    (Builtin.copy_ #[dT, sT] ty #[.slice (some ⟨b, o, none⟩) dLen dCap, .string t]).run P w = .ok (goInt dLen) (w.setCells b o ((t.data.toList.take dLen).map fun x => Value.int .u8 (x.toNat : Int))) := by
  have hmin : Nat.min t.size dLen = dLen := Nat.min_eq_right hle
  have hl : ((t.data.toList.take dLen).map fun x => Value.int .u8 (x.toNat : Int)).length = dLen := by
    have : t.data.toList.length = t.size := by rw [Array.length_toList]; rfl
    rw [List.length_map, List.length_take, this]; omega
  have hst := run_storeCells_cells (P := P) b o ((t.data.toList.take dLen).map fun x => Value.int .u8 (x.toNat : Int)) 0 w (by rw [hl]; simpa using hc) (by rw [hl]; simpa using hf) (by
    intro v hv
    obtain ⟨x, _, rfl⟩ := List.mem_map.1 hv
    rfl)
  rw [Nat.add_zero] at hst
  simp [Builtin.copy_, run_underlying hu, Builtin.lenOf, Builtin.firstCells, hz, hmin]
  simp only [List.map_take] at hst ⊢
  rw [hst]
  rfl
theorem step_copyS {w : World} {ops : Array Oper} {o : Oper} {a : Act} {K : Act → World → Prop} {Q : Exit → Act → World → Prop} {E : Prop} (hgd : o.guard = none) (d x : Operand)
    (ho : o.op = .call { callee := .builtin .copy, args := #[d, x], argTypes := #[22, 9] })
    (base n c g off dLen dCap : Nat) (bs : List UInt8) (hown : Own w base (some ⟨g, 0, none⟩) n c bs) (dp : Option Addr) (hdp : dp = some ⟨g, off, none⟩) (hd : a.eval d = .slice dp dLen dCap) (s : ByteArray) (hx : a.eval x = .string s) (hle : dLen ≤ s.size) (hfit : off + dLen ≤ n)
    (h : ∀ w', Own w' base (some ⟨g, 0, none⟩) n c (putL bs off (s.data.toList.take dLen)) → Turn (BlkA (some ⟨g, 0, none⟩)) w w' → K (a.put o.dst (goInt dLen)) w') : if Region.wanted o (yielded ops a.tmps) = true then Oper.wp Try.prog o a w K Q else E := by
  subst hdp
  have hw : Region.wanted o (yielded ops a.tmps) = true := by simp [Region.wanted, hgd]
  rw [if_pos hw]
  obtain ⟨i0, hi, hz, h1, h2⟩ := info_parts byte_info
  have hrun := run_copy_cut (P := Try.prog) w 22 9 o.type 5 g off dLen dCap s Try.underlying22 (fun w => by simp [Go.sizeOf, typeInfo, hi, h1]) hle (fun j hj => (hown.look (off + j) (by omega)).1) (fun j hj => (hown.look (off + j) (by omega)).2)
  obtain ⟨q1, q2⟩ := hown.puts (s.data.toList.take dLen) off
  unfold Oper.wp execOp
  simp only [ho, resolve, invoke, builtin, Sem.run_bind, Sem.run_pure, Result.andThen_ok, List.map_toArray, List.map_cons, List.map_nil, hd, hx, hrun]
  exact h _ q1 q2

set_option maxHeartbeats 2000000 in
theorem over_c {w : World} {base n c : Nat} {A : Option Addr} {bs : List UInt8} (h : Own w base A n c bs) (a q : Nat) (dat : ByteArray) (ha : a ≤ 1024) (hn : n ≤ 1024) (hq : q ≤ 1024) (hd : dat.size ≤ 1024) :
    Calls Try.prog 53 #[.slice A n c, .int .i64 (a : Int), .agg #[.int .i64 (q : Int), .string dat]] w fun e w' => e = .returned (.tuple #[]) ∧ Own w' base A n c (ovB bs a ⟨(q : Int), dat⟩) ∧ Turn (BlkA A) w w' := by
  have H := Lib.hid h
  have hl := h.1
  have e1 : wrap64 ((a : Int) + (n : Int)) = (a : Int) + (n : Int) := IntWalk.wrap64_in _ (by omega)
  have e2 : wrap64 ((q : Int) + (dat.size : Int)) = (q : Int) + (dat.size : Int) := IntWalk.wrap64_in _ (by omega)
  obtain ⟨F, hF⟩ : ∃ F, F = max a q := ⟨_, rfl⟩
  obtain ⟨T, hT⟩ : ∃ T, T = min (a + n) (q + dat.size) := ⟨_, rfl⟩
  have hFc : (a < q ∧ F = q) ∨ (¬ a < q ∧ F = a) := by omega
  have hTc : (q + dat.size < a + n ∧ T = q + dat.size) ∨ (¬ q + dat.size < a + n ∧ T = a + n) := by omega
  have HF := Lib.hid hF
  have HT := Lib.hid hT
  have HFT := Lib.hid (And.intro hFc hTc)
  clear h hF hT hFc hTc
  go_enter Try.func53, Try.ntmps53
  go_upto_region 1 with (fail)
  obtain ⟨bx, hbx⟩ : ∃ bx, bx = w.heap.size := ⟨_, rfl⟩
  obtain ⟨wa, hwa⟩ : ∃ wa, wa = w.alloc (.cells #[.int .i64 (q : Int), .string dat] 37) := ⟨_, rfl⟩
  have NB := Row.new w 37 [.int .i64 (q : Int), .string dat] _ rfl
  have gA := (Grow.refl w).alloc (.cells #[.int .i64 (q : Int), .string dat] 37)
  rw [← hwa] at gA NB
  rw [← hbx] at NB
  rw [← hbx, ← hwa]
  have c0 := NB.1.c2.1
  have c1 := NB.1.c2.2
  have HG := Lib.hid gA
  have HBX := Lib.hid hbx
  have HO := Lib.hid (show Own wa base A n c bs by rw [hwa]; exact H.out.alloc _)
  clear hwa gA NB hbx
  go_cut [6] (fun u wx => u = .int .i64 (F : Int) ∧ wx = wa)
  case first =>
    go_wp2_with fail
    all_goals
      go_meet
      have := HFT.out
      refine ⟨?_, rfl⟩; congr 1; omega
  case rest =>
    obtain ⟨rfl, rfl⟩ := hcut
    go_upto_region 2 with (fail)
    go_cut [7] (fun v wx => v = .int .i64 (T : Int) ∧ wx = wc)
    case first =>
      go_wp2_with fail
      all_goals
        go_meet
        have := HFT.out
        refine ⟨?_, rfl⟩; congr 1; omega
    case rest =>
    obtain ⟨rfl, rfl⟩ := hcut
    by_cases hft : F < T
    · have hFF := HFT.out
      obtain ⟨g, rfl, hg1, hg2⟩ := HO.out.row (by omega)
      have hcap := HO.out.cap
      obtain ⟨k1, hk1⟩ : ∃ k1, k1 = F - a := ⟨_, rfl⟩
      obtain ⟨k2, hk2⟩ : ∃ k2, k2 = T - a := ⟨_, rfl⟩
      obtain ⟨k3, hk3⟩ : ∃ k3, k3 = F - q := ⟨_, rfl⟩
      have hb : k1 < k2 ∧ k2 ≤ n ∧ k2 ≤ c ∧ k3 + (k2 - k1) ≤ dat.size ∧ k3 ≤ dat.size := by omega
      have y1 : IntKind.i64.wrap ((F : Int) - (a : Int)) = (k1 : Int) := by rw [IntWalk.i64_in _ (by omega)]; omega
      have y2 : IntKind.i64.wrap ((T : Int) - (a : Int)) = (k2 : Int) := by rw [IntWalk.i64_in _ (by omega)]; omega
      have y3 : IntKind.i64.wrap ((F : Int) - (q : Int)) = (k3 : Int) := by rw [IntWalk.i64_in _ (by omega)]; omega
      have i1 : (k1 : Int) ≤ (k2 : Int) := by omega
      have i2 : (k2 : Int) ≤ (c : Int) := by omega
      have i3 : (k3 : Int) ≤ (dat.size : Int) := by omega
      have hne : ¬ c = k1 := by omega
      have HN := Lib.hid (And.intro hk1 (And.intro hk2 (And.intro hk3 (And.intro hft hFF))))
      have HH := Lib.hid hb
      have hgb : bx ≠ g := by
        have h1 : Own w base (some ⟨g, 0, none⟩) n c bs := H.out
        obtain ⟨g', e, -, hlt⟩ := h1.row (by omega)
        injection e with e
        injection e with e
        have := HBX.out
        omega
      have hsz : (dat.extract k3 dat.size).size = dat.size - k3 := by rw [ByteArray.size_extract]; omega
      have HSZ := Lib.hid hsz
      clear hk1 hk2 hk3 hFF hcap hsz
      go_wp2_with fail
      go_region_held3 (fun w' => w'.cell? ⟨bx, 0, none⟩ = some (.int .i64 (q : Int)) ∧ w'.cell? ⟨bx, 1, none⟩ = some (.string dat)) (first | exact ⟨c0, c1⟩ | exact hs4) ((refine step_copyS rfl (.tmp 33) (.tmp 40) rfl base n c g k1 (k2 - k1) (c - k1) bs (HO.out.keep (by (repeat (first | exact Grow.refl _ | refine Grow.drew ?_ | refine Grow.drewN ?_ _)))) _ (by first | rfl | (simp [hne]; done) | exact slice_ne hne) (by first | rfl | simp) (dat.extract k3 dat.size) (by first | rfl | simp) (by have := HSZ.out; have := HH.out; omega) (by have := HH.out; omega) ?_; intro w4 q1 q2; have hs4 := And.intro (q2.cell' c0 (fun ⟨p, hp, e⟩ => hgb (by injection hp with hp; subst hp; exact e.symm))) (q2.cell' c1 (fun ⟨p, hp, e⟩ => hgb (by injection hp with hp; subst hp; exact e.symm)))))
      all_goals
        go_wp2_with fail
        go_end0
        refine ⟨rfl, ?_, Turn.and (Turn.grow (by (repeat (first | exact HG.out | refine Grow.drew ?_ | refine Grow.drewN ?_ _))) _) q2⟩
        obtain ⟨hk1, hk2, hk3, hlt, -⟩ := HN.out
        have e : ovB bs a ⟨(q : Int), dat⟩ = putL bs k1 ((dat.extract k3 dat.size).data.toList.take (k2 - k1)) := by
          have hF := HF.out
          have hT := HT.out
          unfold ovB
          simp only [Int.toNat_natCast]
          rw [hl, ← hF, ← hT, if_pos hlt, ← hk1, ← hk3, show T - F = k2 - k1 by omega]
          congr 2
          simp only [PT.txt, ByteArray.data_extract, Array.toList_extract, List.extract_eq_take_drop]
          rw [List.take_of_length_le (by rw [List.length_drop, Array.length_toList]; exact Nat.le_refl _)]
        rw [e]
        exact q1
    · go_wp2_with fail
      go_end0
      refine ⟨rfl, ?_, Turn.grow HG.out _⟩
      have e : ovB bs a ⟨(q : Int), dat⟩ = bs := by
        unfold ovB
        rw [if_neg]
        have := HF.out; have := HT.out
        simp only [Int.toNat_natCast]
        omega
      rw [e]
      exact HO.out
end Go.Proofs.Ytlinlmimakealaa

namespace Go.Proofs.Ytlinlmimakealaa
open Go.RowKit

def PadInv (w wr : World) (bs : List UInt8) (f : Nat) (v : Value) : Prop := ∃ (j : Nat) (A : Option Addr) (N c : Nat), j ≤ f ∧ N = bs.length + j ∧ v = .slice A N c ∧ Own wr w.heap.size A N c (bs ++ List.replicate j 0) ∧ Grow w wr
theorem rl_encode_long {w : World} {A : Option Addr} {n c : Nat} {L : List PT} (hn : L.length = n) (hl : 64 < n) :
    Calls Try.prog 76 #[.slice A n c] w fun e w' => EncRes w w' L e := by
  have HM := Lib.hid (show mayP L = false by rw [Bool.eq_false_iff]; intro q; have := (mayP_iff.1 q).1; omega)
  have z1 : decide (64 < n) = true := decide_eq_true hl
  have z2 : decide ((64 : Int) < (n : Int)) = true := decide_eq_true (by omega)
  clear hn
  go_enter Try.func76, Try.ntmps76
  go_wp2_with fail
  go_ret2
  exact .inr ⟨HM.out, rfl, Grow.refl _⟩

set_option maxHeartbeats 4000000 in
set_option maxRecDepth 8000 in
theorem rl_encode_go {w : World} {A : Option Addr} {n c : Nat} {L : List PT} (hr : RP w A n L) (hl : n ≤ 64) (hw : ∀ p ∈ L, p.wide) :
    Calls Try.prog 76 #[.slice A n c] w fun e w' => EncRes w w' L e := by
  have HR := Lib.hid hr
  have HN := Lib.hid hr.1
  have HW := Lib.hid hw
  have z1 : decide (64 < n) = false := decide_eq_false (by omega)
  have z2 : decide ((64 : Int) < (n : Int)) = false := decide_eq_false (by omega)
  clear hr hw
  go_enter Try.func76, Try.ntmps76
  go_wp2_with fail
  refine (rput_s (n := 0) (bs := []) 2 Sl.nil (by simp [fitsB]; omega) (by omega) (by simp) (by omega)).mono ?_
  rintro e w1 ⟨A1, c1, rfl, o1, g1⟩
  have HI := Lib.hid (show EncInv w w1 L (.slice A1 2 c1) (.int .i64 0) from ⟨0, 2, A1, c1, rfl, by omega, rfl, by omega, by simpa [encF, HN.out] using o1, by simp, g1⟩)
  clear o1 g1
  go_wp2_with fail
  go_loopw [4, 5] (fun v t wr => EncInv w wr L v t) (fun _ t _ => n - (intOf t).toNat)
  case atStart => exact HI.out
  case round =>
    obtain ⟨k, m, A2, c2, rfl, hk, rfl, hm, o2, hall, g2⟩ := hrel
    clear HI
    by_cases hlt : k < n
    · obtain ⟨b, o, r, hrk, rfl, hb, d0, d1⟩ := HR.out.at_ hlt
      obtain ⟨hk1, hk2⟩ := List.getElem?_eq_some_iff.1 hrk
      have hwd := HW.out r (by rw [← hk2]; exact List.getElem_mem _)
      have e0 := g2.cell d0
      have e1 := g2.cell d1
      have HRK := Lib.hid hk2
      have HWD := Lib.hid hwd
      have HALL := Lib.hid hall
      have HD := Lib.hid (And.intro d0 d1)
      clear d0 d1 hrk hwd hall hk2
      go_wp2_with fail
      refine (ref1_fits r.pos 4 _).mono ?_
      rintro e w' ⟨rfl, rfl⟩
      cases hf : fitsB r.pos 4 with
      | false =>
        have HM := Lib.hid (show mayP L = false from not_mayP (k := k) hk1 (by rw [HRK.out, PT.may, hf]; rfl))
        clear hf
        go_wp2_with fail
        go_ret2
        exact .inr ⟨HM.out, rfl, g2⟩
      | true =>
        by_cases hs : 256 < r.dat.size
        · have HM := Lib.hid (show mayP L = false from not_mayP (k := k) hk1 (by rw [HRK.out, PT.may, hf]; simp; omega))
          have y1 : decide (256 < r.dat.size) = true := decide_eq_true hs
          have y2 : decide ((256 : Int) < (r.dat.size : Int)) = true := decide_eq_true (by omega)
          clear hf
          go_wp2_with fail
          go_ret2
          exact .inr ⟨HM.out, rfl, g2⟩
        · have HF := Lib.hid hf
          have y1 : decide (256 < r.dat.size) = false := decide_eq_false hs
          have y2 : decide ((256 : Int) < (r.dat.size : Int)) = false := decide_eq_false (by omega)
          have hsz : r.dat.size ≤ 256 := by omega
          have HMAY := Lib.hid (take_may (k := k) hk1 HALL.out (by rw [HRK.out, PT.may, hf]; simp; omega))
          clear hf hs
          have s2 := o2.sl
          have HS3 := Lib.hid s2
          have HG3 := Lib.hid g2
          have HO := Lib.hid o2
          have hmb : m ≤ 20000 := by omega
          have hm4 : m + (Int.toNat 4) = m + 4 := rfl
          clear s2 o2
          go_wp2_with fail
          refine (rput_s (m + 4) HS3.out HF.out HWD.out.2 hm4 (by omega)).mono ?_
          rintro e w4 ⟨A4, c4, rfl, o4, g4⟩
          have HG4 := Lib.hid (HG3.out.trans g4)
          have s4 := o4.sl
          have l4 := g4.size
          have f0 := HG4.out.cell HD.out.1; have f1 := HG4.out.cell HD.out.2
          clear HS3 o4 e0 e1
          go_wp2_with fail
          refine (rput_s (m + 6) s4 (k := (r.dat.size : Int)) (by simp [fitsB]; omega) (by omega) (by simp) (by omega)).mono ?_
          rintro e w5 ⟨A5, c5, rfl, o5, g5⟩
          have HG5 := Lib.hid (HG4.out.trans g5)
          have h0 := HG5.out.cell HD.out.1; have h1 := HG5.out.cell HD.out.2
          have o5' := o5.low (B := w.heap.size) (Nat.le_trans HG3.out.size l4)
          have HZ5 := Lib.hid HG5.out.size
          have HL5 := Lib.hid o5'.1
          clear o5 s4 f0 f1 l4
          go_wp2_with (at_builtin; refine wpList_appS rfl (.tmp 51) (.tmp 56) rfl w.heap.size _ _ rfl o5'.2.2 r.dat rfl (by rw [HL5.out]; omega) HZ5.out ?_; intro v6 w6 q1 q2; obtain ⟨A6, c6, rfl, o6⟩ := Own.ofOB q1 (m + 6 + r.dat.size) (by rw [List.length_append, HL5.out]; exact congrArg _ (PT.txt_length r)) (by omega); clear q1)
          have X : EncInv w w6 L (.slice A6 (m + 6 + r.dat.size) c6) (.int .i64 ((k : Int) + 1)) := ⟨k + 1, _, A6, c6, by simp, hk1, rfl, by omega, by
            have := encF_take (L := L) (k := k) hk1
            rw [this, HRK.out, PT.enc]
            simpa [List.append_assoc, PT.txt] using o6, HMAY.out, HG5.out.low q2⟩
          have e5 := wrap_small1 (show k < 64 by omega)
          clear o6 q2 o5' h0 h1
          go_roundw
          case rel => (try rw [e5]); first | exact X | ((repeat apply Exists.intro); exact X) | ((repeat apply Exists.intro); refine ⟨X, ?_⟩; rfl)
          case measure => first | exact measP hlt | exact measPW hlt e5
    · obtain rfl : k = n := by have := HN.out; omega
      have HMAY := Lib.hid (show mayP L = true from mayP_iff.2 ⟨by have := HN.out; omega, by rw [List.take_of_length_le (by have := HN.out; omega)] at hall; exact hall⟩)
      have HB := Lib.hid (show leB L.length 2 ++ encF (L.take k) = bodyP L by rw [List.take_of_length_le (by have := HN.out; omega)]; rfl)
      have HO := Lib.hid o2
      have HG := Lib.hid g2
      have hmb : m ≤ 20000 := by omega
      have s2 := o2.sl
      have HEQ := Lib.hid (encP_le HMAY.out)
      obtain ⟨bd, hbd⟩ : ∃ bd, bd = bodyP L := ⟨_, rfl⟩
      rw [HB.out, ← hbd] at s2
      have HBD := Lib.hid hbd
      have HLB := Lib.hid s2.1
      clear o2 hall g2 hlt hbd
      go_wp2_with fail
      refine (rsum_s s2).mono ?_
      rintro e w3 ⟨q, rfl, hq, hq1, rfl⟩
      have s3 := s2
      have HG3 := HG
      have hm4 : m + (Int.toNat 4) = m + 4 := rfl
      clear s2
      go_wp2_with fail
      refine (rput_s (m + 4) s3 (k := (q : Int)) (by simp [fitsB]; omega) (by omega) hm4 (by omega)).mono ?_
      rintro e w4 ⟨A4, c4, rfl, o4, g4⟩
      have HG4 := Lib.hid (HG3.out.trans g4)
      have HZ4 := Lib.hid HG4.out.size
      have o4' := o4.low (B := w.heap.size) HG3.out.size
      have hbb : bd ++ leB (q : Int).toNat (Int.toNat 4) = sumB bd := by rw [hq.out]; rfl
      rw [hbb] at o4'
      have hlb : (sumB bd).length = m + 4 := by rw [sumB_length, HLB.out]
      have hfl := fill_ltP (m + 4)
      obtain ⟨f, hf⟩ : ∃ f, f = fillN (m + 4) := ⟨_, rfl⟩
      rw [← hf] at hfl
      have HF := Lib.hid hf
      have hf8 : (m + 4 + f) % 8 = 0 ∧ ∀ j, j < f → (m + 4 + j) % 8 ≠ 0 := by
        rw [hf, fillN]
        refine ⟨by omega, ?_⟩
        intro j hj
        omega
      have HF8 := Lib.hid hf8
      have HLS := Lib.hid hlb
      have HI := Lib.hid (show PadInv w w4 (sumB bd) f (.slice A4 (m + 4) c4) from ⟨0, A4, m + 4, c4, Nat.zero_le _, by rw [hlb], rfl, by simpa using o4', HG4.out⟩)
      clear o4 g4 s3 hbb hlb hf hf8 o4' hq
      go_wp2_with fail
      go_loopw [4] (fun v wr => PadInv w wr (sumB bd) f v) (fun v _ => m + 4 + f - lenV v)
      case atStart => exact HI.out
      case round =>
        obtain ⟨j, A9, N, c9, hj, hN, rfl, o9, g9⟩ := hrel
        rw [HLS.out] at hN
        have hNs : N ≤ 30000 := by omega
        have HO9 := Lib.hid o9
        have HZ9 := Lib.hid g9.size
        by_cases hlt : j < f
        · have hne := HF8.out.2 j hlt
          rw [← hN] at hne
          have hne1 : ((N : Int) % 8 != 0) = true := by simp; omega
          have HN := Lib.hid hN
          clear hN hne o9
          go_wp2_with (at_builtin; refine wpList_app1 rfl (.tmp 66) (.tmp 67) rfl w.heap.size _ _ rfl _ rfl HO9.out.2.2 0 (by rfl) (by have := HO9.out.1; omega) HZ9.out ?_; intro v10 w10 hown10 hb10)
          rw [List.append_assoc, ← List.replicate_succ'] at hown10
          obtain ⟨A10, c10, rfl, o10⟩ := Own.ofOB hown10 (N + 1) (by have := HLS.out; have := HN.out; simp; omega) (by omega)
          have X : PadInv w w10 (sumB bd) f (.slice A10 (N + 1) c10) := ⟨j + 1, A10, N + 1, c10, hlt, by have := HLS.out; have := HN.out; omega, rfl, o10, g9.low hb10⟩
          have HX := Lib.hid X
          have hM : m + 4 + f - lenV (.slice A10 (N + 1) c10) < m + 4 + f - lenV (.slice A9 N c9) := by have := HN.out; simp only [lenV]; omega
          clear hown10 X o10
          go_roundw
          case rel => exact HX.out
          case measure => exact hM
        · obtain rfl : j = f := by omega
          have hne := HF8.out.1
          rw [← hN] at hne
          have hne1 : ((N : Int) % 8 != 0) = false := by simp; omega
          have he : sumB bd ++ List.replicate j 0 = encP L := by rw [encP, ← HBD.out, HF.out, HLS.out]
          rw [he] at o9
          have HN := Lib.hid hN
          have HE := Lib.hid (show N = (encP L).length from o9.1.symm)
          have HO10 := Lib.hid o9
          clear hN hne he o9 HO9
          go_wp2_with fail
          go_ret2
          refine .inl ⟨HMAY.out, A9, c9, ?_, ?_, g9⟩
          · rw [← HE.out]; rfl
          · rw [← HE.out]; exact HO10.out

theorem rl_encode {w : World} {A : Option Addr} {n c : Nat} {L : List PT} (hr : RP w A n L) (hw : ∀ p ∈ L, p.wide) :
    Calls Try.prog 76 #[.slice A n c] w fun e w' => EncRes w w' L e := by
  by_cases h : 64 < n
  · exact rl_encode_long hr.1 h
  · exact rl_encode_go hr (by omega) hw
end Go.Proofs.Ytlinlmimakealaa
